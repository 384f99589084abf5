/- Layer 6's writer, the rest; its reader. -/
import Derived.Test.YthbnokaclolknaaBitW
namespace Go.Proofs.Ythbnokaclolknaa
open Go.RowKit
set_option linter.unusedVariables false
set_option linter.unusedSimpArgs false
section
variable {S : Nat → Prop} {W w : World} {M : List Thing} {b : Nat} {L : List Bool} {s : ByteArray} {a : Nat}

theorem len_nil (w : World) : Calls Try.prog 11 #[.pointer none] w fun e w' => e = .returned (.int .i64 0) ∧ w = w' := by
  go_enter Try.func11, Try.ntmps11
  go_wp2
  go_ret
  exact ⟨rfl, rfl⟩
theorem blen_st (h : St S W w (bwT b L :: M)) : Calls Try.prog 11 #[.pointer (some ⟨b, 0, none⟩)] w fun e w' => e = .returned (.int .i64 L.length) ∧ w = w' := by
  obtain ⟨v, h⟩ := h.bwOpen
  have h1 := cell_of_heap h.swap.blk 1
  have h2 : w.cell? ⟨b, 1, none⟩ = some (.int .i64 L.length) := h1
  clear h1 h
  go_enter Try.func11, Try.ntmps11
  go_wp2
  go_ret
  exact ⟨rfl, rfl⟩
theorem bstr_nil (w : World) : Calls Try.prog 12 #[.pointer none] w fun e w' => e = .returned (.string ⟨#[]⟩) ∧ w = w' := by
  go_enter Try.func12, Try.ntmps12
  go_wp2
  go_ret
  exact ⟨rfl, rfl⟩
theorem run_string_own' {w : World} {v : Value} {l : List UInt8} (h : Own w 5 1 v l.length (bytesV l)) : (convert 24 9 v).run Try.prog w = .ok (.string ⟨l.toArray⟩) w := by
  rcases h.2 with ⟨rfl, hn⟩ | ⟨g, cap, cur, rfl, _, hh, hnc, hcm, hcs, htake⟩
  · obtain rfl : l = [] := List.eq_nil_of_length_eq_zero hn
    exact run_convert_bytes_nil w _ _ Try.underlying24 Try.underlying5 _ _ _ Try.underlying9
  · refine run_string_of_row w _ _ Try.underlying24 Try.underlying5 g l.length cap l rfl (fun i hi => ?_) _ Try.underlying9
    rw [cell_of_heap hh, ← bytesV_get l i hi, ← htake]
    simp [List.getElem?_take, hi]
theorem bstr_st (h : St S W w (bwT b L :: M)) : Calls Try.prog 12 #[.pointer (some ⟨b, 0, none⟩)] w fun e w' => e = .returned (.string ⟨(pack L).toArray⟩) ∧ w = w' := by
  obtain ⟨v, h⟩ := h.bwOpen
  obtain ⟨A, c, rfl⟩ := h.own.form
  have h1 := cell_of_heap h.swap.blk 0
  have h2 : w.cell? ⟨b, 0, none⟩ = some (.slice A (pack L).length c) := h1
  have hcv := run_string_own' h.own
  clear h1 h
  go_enter Try.func12, Try.ntmps12
  go_wp2
  go_ret
  exact ⟨rfl, rfl⟩

def brT (b : Nat) (s : ByteArray) (a : Nat) : Thing := blkT b #[.string s, .int .i64 a] 52
theorem bnew_st (h : St S W w M) (s : ByteArray) :
    Calls Try.prog 14 #[.string s] w fun e w' => e = .returned (.pointer (some ⟨w.heap.size, 0, none⟩)) ∧ St S W w' (brT w.heap.size s 0 :: M) ∧ w'.heap.size = w.heap.size + 1 := by
  go_enter Try.func14, Try.ntmps14
  go_wp2
  go_ret
  exact ⟨rfl, h.alloc _ _, by simp⟩
theorem bat_nil (w : World) : Calls Try.prog 18 #[.pointer none] w fun e w' => e = .returned (.int .i64 0) ∧ w = w' := by
  go_enter Try.func18, Try.ntmps18
  go_wp2
  go_ret
  exact ⟨rfl, rfl⟩
theorem bat_st (h : St S W w (brT b s a :: M)) : Calls Try.prog 18 #[.pointer (some ⟨b, 0, none⟩)] w fun e w' => e = .returned (.int .i64 a) ∧ w = w' := by
  have h1 := cell_of_heap (St.blk h) 1
  have h2 : w.cell? ⟨b, 1, none⟩ = some (.int .i64 a) := h1
  clear h1 h
  go_enter Try.func18, Try.ntmps18
  go_wp2
  go_ret
  exact ⟨rfl, rfl⟩
set_option maxRecDepth 20000 in
theorem bleft_st (h : St S W w (brT b s a :: M)) (ha : a ≤ 8 * s.size) (hs : s.size ≤ 140737488355328) : Calls Try.prog 20 #[.pointer (some ⟨b, 0, none⟩)] w fun e w' => e = .returned (.int .i64 ((8 * s.size - a : Nat) : Int)) ∧ Ext w w' := by
  have hb := St.blk h
  have h0 : w.cell? ⟨b, 0, none⟩ = some (.string s) := cell_of_heap hb 0
  have h1 : w.cell? ⟨b, 1, none⟩ = some (.int .i64 a) := cell_of_heap hb 1
  have hl := lt_of_block hb
  clear hb h
  obtain ⟨d, hd⟩ : ∃ d, d = 8 * s.size - a := ⟨_, rfl⟩
  rw [← hd]
  have e1 : (8 * s.size : Int) - (a : Int) = (d : Int) := by omega
  have hdb : (d : Int) ≤ 9223372036854775807 := by omega
  clear hd
  have b1 : (8 : Int) * (s.size : Int) ≤ 9223372036854775807 := by omega
  go_enter Try.func20, Try.ntmps20
  go_wp2
  (refine wp_region_after (by kernel_rfl) (by kernel_rfl) ?_; (repeat (first | go_big_quiet_skip | (go_big_quiet_want; first | (fail; simp only [Act.put, List.setIfInBounds_toArray, List.set_cons_succ, List.set_cons_zero]; go_big_quiet_on) | (go_big_quiet_op; first | go_big_quiet_on | (apply Exists.intro; refine ⟨fun _ => ?_, ?_⟩; (· (fail)); go_big_quiet_on))))); refine wpQuiet_nil ?_; rintro _ ⟨y, rfl⟩)
  go_wp2
  go_ret
  exact ⟨rfl, y.ext⟩
theorem byte_bit (x : Nat) (hx : x < 256) : bits .and .u8 (x : Int) 1 = ((x % 2 : Nat) : Int) := by
  rw [show (1 : Int) = ((1 : Nat) : Int) by rfl, u8_and_nat x 1 (by omega) (by omega), Nat.and_one_is_mod]
set_option maxHeartbeats 1000000 in
theorem bnext_st (h : St S W w (brT b s a :: M)) (ha : a < 8 * s.size) (hs : s.size ≤ 140737488355328) : Calls Try.prog 21 #[.pointer (some ⟨b, 0, none⟩)] w fun e w' => e = .returned (.int .u64 ((sb s.data.toList a).toNat : Nat)) ∧ St S W w' (brT b s (a + 1) :: M) := by
  have H := Lib.hid h
  have hb := St.blk h
  have h0 : w.cell? ⟨b, 0, none⟩ = some (.string s) := cell_of_heap hb 0
  have h1 : w.cell? ⟨b, 1, none⟩ = some (.int .i64 a) := cell_of_heap hb 1
  have hl := lt_of_block hb
  clear hb h
  obtain ⟨q, hq⟩ : ∃ q, q = a / 8 := ⟨_, rfl⟩
  obtain ⟨r, hr⟩ : ∃ r, r = 7 - a % 8 := ⟨_, rfl⟩
  have hqs : q < s.size := by omega
  have hqs2 : (q : Int) < s.size := by omega
  have hwq : (a : Int) / 8 = (q : Int) := by omega
  have hwr : (7 : Int) - (a : Int) % 8 = (r : Int) := by omega
  have hwr2 : (a : Int).tmod 8 = (a : Int) % 8 := Int.tmod_eq_emod_of_nonneg (by omega)
  have hr8 : (r : Int) ≤ 8 := by omega
  have hx8 := s[q].toNat_lt
  have hv : sb s.data.toList a = (s[q].toNat / 2 ^ r % 2 == 1) := by
    unfold sb
    rw [← hq, ← hr, List.getD_eq_getElem?_getD, List.getElem?_eq_getElem (by rw [data_len]; exact hqs)]
    rfl
  have hv2 : (sb s.data.toList a).toNat = s[q].toNat / 2 ^ r % 2 := by
    rw [hv]
    rcases Nat.mod_two_eq_zero_or_one (s[q].toNat / 2 ^ r) with h | h <;> (rw [h]; rfl)
  rw [hv2]
  have hand := byte_bit (s[q].toNat / 2 ^ r) (Nat.lt_of_le_of_lt (Nat.div_le_self _ _) hx8)
  have hbd : s[q].toNat / 2 ^ r % 2 < 2 := Nat.mod_lt _ (by omega)
  have e2 : (s[q].toNat : Int) / 2 ^ r = ((s[q].toNat / 2 ^ r : Nat) : Int) := by push_cast; rfl
  rw [← e2] at hand
  generalize s[q].toNat / 2 ^ r % 2 = bit at *
  clear hv hv2 e2 hq hr
  go_enter Try.func21, Try.ntmps21
  go_wp2
  (refine wp_region_after (by kernel_rfl) (by kernel_rfl) ?_; (repeat (first | go_big_quiet_skip | (go_big_quiet_want; first | (fail; simp only [Act.put, List.setIfInBounds_toArray, List.set_cons_succ, List.set_cons_zero]; go_big_quiet_on) | (go_big_quiet_op; first | go_big_quiet_on | (apply Exists.intro; refine ⟨fun _ => ?_, ?_⟩; (· (fail)); go_big_quiet_on))))); refine wpQuiet_nil ?_; rintro _ ⟨y, rfl⟩)
  have H2 := H.out.ext y.ext
  have hb := St.blk H2
  have h3 : y.w.cell? ⟨b, 1, none⟩ = some (.int .i64 a) := cell_of_heap hb 1
  have h4 := free_of_heap hb 1
  clear hb
  go_wp2
  go_ret
  exact ⟨rfl, St.set H2 1 (.int .i64 ((a + 1 : Nat) : Int))⟩
end
end Go.Proofs.Ythbnokaclolknaa
