/- Layer 2: a number's bytes. -/
import Derived.Test.YtkjnpjkfagdegaaPush
import Derived.Test.YtkjnpjkfagdegaaVPure
import Derived.StillTailTactics
namespace Go.Proofs.Ytkjnpjkfagdegaa
open Go.RowKit
set_option linter.unusedVariables false
set_option linter.unusedSimpArgs false
theorem v_u8_info : (Try.prog.info? 5).map (fun i => (i.zero, i.size, i.bytes)) = some (some (.int .u8 0), 1, 1) := by kernel_rfl
theorem v_run_string {w : World} {v : Value} {n : Nat} {l : List UInt8} (hl : l.length = n) (h : Own w 5 1 v n (bytesV l)) : (convert 45 9 v).run Try.prog w = .ok (.string ⟨l.toArray⟩) w := by
  subst hl
  rcases h.2 with ⟨rfl, hn⟩ | ⟨g, cap, cur, rfl, _, hh, hnc, hcm, hcs, htake⟩
  · obtain rfl : l = [] := List.eq_nil_of_length_eq_zero hn
    exact run_convert_bytes_nil w _ _ Try.underlying45 Try.underlying5 _ _ _ Try.underlying9
  · refine run_string_of_row w _ _ Try.underlying45 Try.underlying5 g l.length cap l rfl (fun i hi => ?_) _ Try.underlying9
    rw [Own.cell h i (by omega), bytesV_get _ _ hi]
theorem small_byte (m : Nat) (h : m < 128) : Value.int .u8 (m : Int) = bv (UInt8.ofNat m) := by
  have : m % 256 = m := by omega
  simp [bv, this]
theorem low_byte (m : Nat) : Value.int .u8 ((m % 128 + 128 : Nat) : Int) = bv (UInt8.ofNat (m % 128 + 128)) := by
  have : (m % 128 + 128) % 256 = m % 128 + 128 := by omega
  simp [bv, this]
theorem or_high (m : Nat) (hm : m < 256) : bits .or .u8 (m : Int) 128 = ((m % 128 + 128 : Nat) : Int) := by
  obtain ⟨m, rfl⟩ : ∃ k : Fin 256, m = k.val := ⟨⟨m, hm⟩, rfl⟩
  revert m; decide +kernel
theorem bytesV_snoc (l : List UInt8) (b : UInt8) : bytesV l ++ [bv b] = bytesV (l ++ [b]) := by simp [bytesV]
theorem bv_one (b : UInt8) : ∀ u ∈ [bv b], u.oneCell' = true := by intro u hu; simp at hu; subst hu; rfl
set_option maxRecDepth 20000 in
set_option maxHeartbeats 2000000 in
theorem vprint_any (n : Nat) (hn : n < 18446744073709551616) (w : World) :
    Calls Try.prog 27 #[.int .u64 n] w fun e w' => e = .returned (.string ⟨(vb n).toArray⟩) ∧ Ext w w' := by
  obtain ⟨i0, hi, hz0, hz1, hz2⟩ := info_parts v_u8_info
  have hmk : ∀ w : World, (Instr.makeSlice 45 (.int .i64 0) (.int .i64 10)).run Try.prog w = .ok (.slice (some ⟨w.heap.size, 0, none⟩) 0 10) (w.alloc (.cells (madeCells #[Value.int .u8 0] 10) 5)) := by
    intro w
    rw [run_make w 45 5 i0 _ Try.underlying45 hi hz0 .i64 .i64 0 10 (by omega) (by omega) (by rw [hz2]; omega) (by omega), hz1]
    simp [Value.cells]
  have h := (St.start noB w).made 5 1 0 10 (madeCells #[Value.int .u8 0] 10) (by omega) (by unfold maxLen; omega) (by rw [← Array.length_toList, toList_madeCells_one]; rfl)
  have h10 := vb_len10 n hn
  go_enter Try.func27, Try.ntmps27
  go_wp2_with fail
  clear hmk hi hz0 hz1 hz2
  go_loopw [0, 3] (fun vn vb' wr => ∃ (m k : Nat) (v : Value) (l : List UInt8), vn = .int .u64 m ∧ vb' = v ∧ m < 18446744073709551616 ∧ l.length = k ∧ k + (vb m).length ≤ 10 ∧ Hid (l ++ vb m = vb n) ∧ St noB w wr [ownT 5 1 v k (bytesV l)]) (fun vn _ _ => (intOf vn).toNat)
  case atStart => exact ⟨n, 0, _, [], rfl, rfl, hn, rfl, by omega, Lib.hid rfl, by simpa [bytesV] using h⟩
  case round =>
    clear h
    obtain ⟨m, k, v, l, rfl, rfl, hm, hlk, hk, HE, h⟩ := hrel
    obtain ⟨A, c, rfl⟩ := h.own.form
    have hp := vb_pos m
    have hkb : k ≤ 9 := by omega
    have HK := Lib.hid hk
    clear hk hp
    by_cases hlt : m < 128
    · have HV := Lib.hid (vb_small hlt)
      have HB := Lib.hid (small_byte m hlt)
      go_wp2_with (at_builtin; refine wpList_push rfl _ _ _ rfl 5 (.int .u8 0) 1 1 Try.underlying45 v_u8_info rfl (by decide) h rfl rfl rfl (by rw [HB.out]; exact bv_one _) (by unfold maxLen; omega) (by omega) ?_; intro A' c' w3 h3; have hcv := v_run_string (w := w3) (v := .slice A' (k + 1) c') (n := k + 1) (l := l ++ [UInt8.ofNat m]) (by simp [hlk]) (by rw [← bytesV_snoc, ← HB.out]; exact h3.own))
      go_ret
      refine ⟨?_, h3.ends⟩
      rw [← HE.out, HV.out]; rfl
    · have HV := Lib.hid (vb_big hlt)
      have HB := Lib.hid (low_byte m)
      have HO := Lib.hid (or_high (m % 256) (by omega))
      have HD : (m : Int) / 128 = ((m / 128 : Nat) : Int) := by omega
      have hm8 : ((m % 256 : Nat) : Int) = (m : Int) % 256 := by omega
      rw [hm8] at HO
      have hmm : m % 256 % 128 = m % 128 := by omega
      rw [hmm] at HO
      have HDD := Lib.hid HD
      clear HD hm8 hmm
      go_wp2_with (at_builtin; refine wpList_push rfl _ _ _ rfl 5 (.int .u8 0) 1 1 Try.underlying45 v_u8_info rfl (by decide) h rfl rfl rfl (by rw [HO.out, HB.out]; exact bv_one _) (by unfold maxLen; omega) (by omega) ?_; intro A' c' w3 h3)
      have h4 : St noB w w3 [ownT 5 1 (.slice A' (k + 1) c') (k + 1) (bytesV (l ++ [UInt8.ofNat (m % 128 + 128)]))] := by rw [← bytesV_snoc, ← HB.out, ← HO.out]; exact h3
      have HE2 : Hid ((l ++ [UInt8.ofNat (m % 128 + 128)]) ++ vb (m / 128) = vb n) := Lib.hid (by rw [← HE.out, HV.out]; simp)
      have hk2 : k + 1 + (vb (m / 128)).length ≤ 10 := by have := HK.out; rw [HV.out, List.length_cons] at this; omega
      go_roundw
      case rel => first | exact ⟨m / 128, k + 1, _, _, by rw [← HDD.out], rfl, by omega, by simp [hlk], hk2, HE2, h4⟩ | ((repeat apply Exists.intro); exact ⟨⟨m / 128, k + 1, _, _, by rw [← HDD.out], rfl, by omega, by simp [hlk], hk2, HE2, h4⟩, rfl⟩)
      case measure => simp [intOf]; omega
theorem plus_high (m : Nat) : (m : Int) % 128 + 128 = ((m % 128 + 128 : Nat) : Int) := by omega
set_option maxRecDepth 20000 in
set_option maxHeartbeats 2000000 in
theorem rprint_any (n : Nat) (hn : n < 18446744073709551616) (w : World) :
    Calls Try.prog 18 #[.int .u64 n] w fun e w' => e = .returned (.string ⟨(vb n).toArray⟩) ∧ Ext w w' := by
  have h := (St.start noB w).made 5 1 0 0 #[] (by omega) (by unfold maxLen; omega) rfl
  have h10 := vb_len10 n hn
  go_enter Try.func18, Try.ntmps18
  go_wp2_with fail
  go_loopw [0, 3] (fun vn vb' wr => ∃ (m k : Nat) (v : Value) (l : List UInt8), vn = .int .u64 m ∧ vb' = v ∧ m < 18446744073709551616 ∧ l.length = k ∧ k + (vb m).length ≤ 10 ∧ Hid (l ++ vb m = vb n) ∧ St noB w wr [ownT 5 1 v k (bytesV l)]) (fun vn _ _ => (intOf vn).toNat)
  case atStart => exact ⟨n, 0, _, [], rfl, rfl, hn, rfl, by omega, Lib.hid rfl, by simpa [bytesV] using h⟩
  case round =>
    clear h
    obtain ⟨m, k, v, l, rfl, rfl, hm, hlk, hk, HE, h⟩ := hrel
    obtain ⟨A, c, rfl⟩ := h.own.form
    have hp := vb_pos m
    have hkb : k ≤ 9 := by omega
    have HK := Lib.hid hk
    clear hk hp
    by_cases hlt : m < 128
    · have HV := Lib.hid (vb_small hlt)
      have HB := Lib.hid (small_byte m hlt)
      go_wp2_with (at_builtin; refine wpList_push rfl _ _ _ rfl 5 (.int .u8 0) 1 1 Try.underlying45 v_u8_info rfl (by decide) h rfl rfl rfl (by rw [HB.out]; exact bv_one _) (by unfold maxLen; omega) (by omega) ?_; intro A' c' w3 h3; have hcv := v_run_string (w := w3) (v := .slice A' (k + 1) c') (n := k + 1) (l := l ++ [UInt8.ofNat m]) (by simp [hlk]) (by rw [← bytesV_snoc, ← HB.out]; exact h3.own))
      go_ret
      refine ⟨?_, h3.ends⟩
      rw [← HE.out, HV.out]; rfl
    · have HV := Lib.hid (vb_big hlt)
      have HB := Lib.hid (low_byte m)
      have HO := Lib.hid (plus_high m)
      have HD : (m : Int) / 128 = ((m / 128 : Nat) : Int) := by omega
      have HDD := Lib.hid HD
      clear HD
      go_wp2_with (at_builtin; refine wpList_push rfl _ _ _ rfl 5 (.int .u8 0) 1 1 Try.underlying45 v_u8_info rfl (by decide) h rfl rfl rfl (by rw [HO.out, HB.out]; exact bv_one _) (by unfold maxLen; omega) (by omega) ?_; intro A' c' w3 h3)
      have h4 : St noB w w3 [ownT 5 1 (.slice A' (k + 1) c') (k + 1) (bytesV (l ++ [UInt8.ofNat (m % 128 + 128)]))] := by rw [← bytesV_snoc, ← HB.out, ← HO.out]; exact h3
      have HE2 : Hid ((l ++ [UInt8.ofNat (m % 128 + 128)]) ++ vb (m / 128) = vb n) := Lib.hid (by rw [← HE.out, HV.out]; simp)
      have hk2 : k + 1 + (vb (m / 128)).length ≤ 10 := by have := HK.out; rw [HV.out, List.length_cons] at this; omega
      go_roundw
      case rel => first | exact ⟨m / 128, k + 1, _, _, by rw [← HDD.out], rfl, by omega, by simp [hlk], hk2, HE2, h4⟩ | ((repeat apply Exists.intro); exact ⟨⟨m / 128, k + 1, _, _, by rw [← HDD.out], rfl, by omega, by simp [hlk], hk2, HE2, h4⟩, rfl⟩)
      case measure => simp [intOf]; omega
end Go.Proofs.Ytkjnpjkfagdegaa
