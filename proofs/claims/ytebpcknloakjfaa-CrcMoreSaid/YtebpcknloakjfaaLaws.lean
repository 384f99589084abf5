/- awake: the answers that the document fixes. -/
import Derived.Test.YtebpcknloakjfaaWalkC
import Derived.Test.YtebpcknloakjfaaAfter
namespace Go.Proofs.Ytebpcknloakjfaa
open Go.RowKit
set_option linter.unusedVariables false
set_option linter.unusedSimpArgs false
theorem ent_all : ∀ i, i < 256 → ent i < 4294967296 := fun i hi => ent_lt (by omega)

set_option maxRecDepth 20000 in
set_option maxHeartbeats 1000000 in
theorem awake_any (w : World) :
    Calls Try.prog 9 #[] w fun e w' => e = .returned (.bool true) ∧ Ext w w' := by
  have hz := zero23
  have q1 : cmore ent 0 [49, 50, 51, 52, 53, 54, 55, 56, 57] = 3421780262 := by decide +kernel
  have q2 : cmore ent 0 [] = 0 := by decide +kernel
  have q3 : cmore ent (cmore ent 0 [49, 50, 51, 52]) [53, 54, 55, 56, 57] = 3421780262 := by decide +kernel
  have q4 : ent 1 = 1996959894 := by decide +kernel
  go_enter Try.func9, Try.ntmps9
  go_wp2_with (first
    | (go_at_call 8; refine (table_any _).mono ?_; rintro e w1 ⟨rfl, hx⟩)
    | (refine wpList_store_row rfl _ _ _ rfl w1.heap.size (tabV ent) rfl rfl 23 (tabV (fun _ => 0)) (heap_alloc_self _ _) (size23 _) (by rw [tabV_size, tabV_size]) (tabV_one _) ?_; rw [setRow_alloc_self]))
  have hrow := Lib.hid (heap_alloc_self w1 (.cells (tabV ent) 23))
  have hcl : (w1.alloc (.cells (tabV ent) 23)).cell? ⟨w1.heap.size, 1, none⟩ = some (.int .u32 1996959894) := by rw [cell_of_heap hrow.out, tabV_get _ _ (by decide), q4]; rfl
  clear hz; simp only [Act.put, List.setIfInBounds_toArray, List.set_cons_succ, List.set_cons_zero]
  (refine wp_region_after (by kernel_rfl) (by kernel_rfl) ?_; (repeat (first | go_big_quiet_skip | (go_big_quiet_want; first | (refine quiet_load_row _ _ rfl w1.heap.size rfl 23 (tabV ent) (0, 0) (.array 256 22) hrow.out Try.underlying23 rfl (size23 _) ?_; simp only [Act.put, List.setIfInBounds_toArray, List.set_cons_succ, List.set_cons_zero]; go_big_quiet_on) | (go_big_quiet_op; first | go_big_quiet_on | (apply Exists.intro; refine ⟨fun _ => ?_, ?_⟩; (· (first | (go_at_call 11; exact Calls.after (sum_any ent ent_all _ (by decide) _)) | (go_at_call 14; exact Calls.after (more_any ent ent_all _ (cmore_lt ent ent_all (by decide) _) _ (by decide) _)))); go_big_quiet_on))))); refine wpQuiet_nil ?_; rintro _ ⟨y, rfl⟩)
  go_wp2
  go_ret
  exact ⟨rfl, (hx.alloc _).trans y.ext⟩

set_option maxRecDepth 20000 in
set_option maxHeartbeats 1000000 in
theorem crcTable_walk (n : Nat) (hn : n < 256) (w : World) :
    Calls Try.prog 3 #[.int .u8 n] w fun e w' => e = .returned (.bool true) ∧ Ext w w' := by
  have hz := zero23
  go_enter Try.func3, Try.ntmps3
  go_wp2_with (first
    | (go_at_call 8; refine (table_any _).mono ?_; rintro e w1 ⟨rfl, hx⟩)
    | (refine wpList_store_row rfl _ _ _ rfl w1.heap.size (tabV ent) rfl rfl 23 (tabV (fun _ => 0)) (heap_alloc_self _ _) (size23 _) (by rw [tabV_size, tabV_size]) (tabV_one _) ?_; rw [setRow_alloc_self]))
  have hrow := Lib.hid (heap_alloc_self w1 (.cells (tabV ent) 23))
  have hcl : (w1.alloc (.cells (tabV ent) 23)).cell? ⟨w1.heap.size, n, none⟩ = some (.int .u32 (ent n : Nat)) := by rw [cell_of_heap hrow.out, tabV_get _ _ (by omega)]
  have hu : n < 4294967296 := by omega
  clear hz; simp only [Act.put, List.setIfInBounds_toArray, List.set_cons_succ, List.set_cons_zero]
  (refine wp_region_after (by kernel_rfl) (by kernel_rfl) ?_; (repeat (first | go_big_quiet_skip | (go_big_quiet_want; first | (fail; simp only [Act.put, List.setIfInBounds_toArray, List.set_cons_succ, List.set_cons_zero]; go_big_quiet_on) | (go_big_quiet_op; first | go_big_quiet_on | (apply Exists.intro; refine ⟨fun _ => ?_, ?_⟩; (· (first | (go_at_call 9; exact Calls.after (awake_any _)) | (go_at_call 10; exact Calls.after_same (Entry_any _ hu _)))); go_big_quiet_on))))); refine wpQuiet_nil ?_; rintro _ ⟨y, rfl⟩)
  go_wp2
  go_ret
  exact ⟨rfl, (hx.alloc _).trans y.ext⟩

set_option maxRecDepth 20000 in
set_option maxHeartbeats 1000000 in
theorem crcSums_walk (s : ByteArray) (hs0 : s.size ≤ 140737488351232) (w : World) :
    Calls Try.prog 4 #[.string s] w fun e w' => e = .returned (.bool true) ∧ Ext w w' := by
  have hs : s.size ≤ maxLen := by unfold maxLen; omega
  by_cases h : s.size ≤ 2000
  · go_enter Try.func4, Try.ntmps4
    go_wp2_with (first
      | (go_at_call 9; refine (awake_any _).mono ?_; rintro e w1 ⟨rfl, hx1⟩)
      | (go_at_call 8; refine (table_any _).mono ?_; rintro e w2 ⟨rfl, hx2⟩)
      | (go_at_call 11; refine (sum_any ent ent_all s hs _).mono ?_; rintro e w3 ⟨rfl, hx3⟩)
      | (go_at_call 12; refine (refSum_any s hs _).mono ?_; rintro e w4 ⟨rfl, rfl⟩))
    go_ret
    refine ⟨rfl, ?_⟩
    (repeat (first | exact Mut.refl _ _ | assumption | apply Mut.alloc | apply Mut.drew | refine Mut.trans ?_ (After.ext _) | refine Mut.trans ?_ (by assumption)))
  · go_enter Try.func4, Try.ntmps4
    go_wp2_with (go_at_call 9; refine (awake_any _).mono ?_; rintro e w1 ⟨rfl, hx⟩)
    go_ret
    refine ⟨rfl, ?_⟩
    (repeat (first | exact Mut.refl _ _ | assumption | apply Mut.alloc | apply Mut.drew | refine Mut.trans ?_ (After.ext _) | refine Mut.trans ?_ (by assumption)))

theorem data_take (s : ByteArray) (k : Nat) (h : k ≤ s.size) : (s.extract 0 k).data.toList = s.data.toList.take k := by
  rw [ByteArray.data_extract, Array.toList_extract]; simp
theorem data_drop (s : ByteArray) (k : Nat) : (s.extract k s.size).data.toList = s.data.toList.drop k := by
  rw [ByteArray.data_extract, Array.toList_extract]
  rw [List.extract_eq_take_drop]
  exact List.take_of_length_le (by simp)

set_option maxRecDepth 20000 in
set_option maxHeartbeats 1000000 in
theorem crcMore_walk (s : ByteArray) (at_ : Int) (hs0 : s.size ≤ 140737488351232) (hat : -9223372036854775808 ≤ at_ ∧ at_ < 9223372036854775808) (w : World) :
    Calls Try.prog 6 #[.string s, .int .i64 at_] w fun e w' => e = .returned (.bool true) ∧ Ext w w' := by
  have hs : s.size ≤ maxLen := by unfold maxLen; omega
  by_cases h : s.size ≤ 2000
  · by_cases h0 : 0 ≤ at_
    · by_cases h1 : at_ ≤ s.size
      · obtain ⟨k, rfl⟩ : ∃ k : Nat, at_ = k := ⟨at_.toNat, by omega⟩
        have hz := zero23
        go_enter Try.func6, Try.ntmps6
        go_wp2_with (first
          | (go_at_call 9; refine (awake_any _).mono ?_; rintro e w1 ⟨rfl, hx1⟩)
          | (go_at_call 8; refine (table_any _).mono ?_; rintro e w2 ⟨rfl, hx2⟩)
          | (refine wpList_store_row rfl _ _ _ rfl w2.heap.size (tabV ent) rfl rfl 23 (tabV (fun _ => 0)) (heap_alloc_self _ _) (size23 _) (by rw [tabV_size, tabV_size]) (tabV_one _) ?_; rw [setRow_alloc_self]))
        have hrow := Lib.hid (heap_alloc_self w2 (.cells (tabV ent) 23))
        clear hz; simp only [Act.put, List.setIfInBounds_toArray, List.set_cons_succ, List.set_cons_zero]
        have q1 : cmore ent (cmore ent 0 (List.take k s.data.toList)) (List.take (s.size - k) (List.drop k s.data.toList)) = cmore ent 0 s.data.toList := by
          rw [cmore_append, List.take_of_length_le (l := List.drop k _) (by simp), List.take_append_drop]
        (refine wp_region_after (by kernel_rfl) (by kernel_rfl) ?_; (repeat (first | go_big_quiet_skip | (go_big_quiet_want; first | (refine quiet_load_row _ _ rfl w2.heap.size rfl 23 (tabV ent) (0, 0) (.array 256 22) hrow.out Try.underlying23 rfl (size23 _) ?_; simp only [Act.put, List.setIfInBounds_toArray, List.set_cons_succ, List.set_cons_zero]; go_big_quiet_on) | (go_big_quiet_op; first | go_big_quiet_on | (apply Exists.intro; refine ⟨fun _ => ?_, ?_⟩; (· (first | (go_at_call 11; exact Calls.after (sum_any ent ent_all _ (by first | exact hs | (simp only [ByteArray.size_extract, maxLen]; omega)) _)) | (go_at_call 14; exact Calls.after (more_any ent ent_all _ (by first | decide | exact cmore_lt ent ent_all (by decide) _) _ (by first | exact hs | (simp only [ByteArray.size_extract, maxLen]; omega)) _)))); go_big_quiet_on))))); refine wpQuiet_nil ?_; rintro _ ⟨y, rfl⟩)
        go_wp2
        go_ret
        refine ⟨rfl, ?_⟩
        (repeat (first | exact Mut.refl _ _ | assumption | apply Mut.alloc | apply Mut.drew | refine Mut.trans ?_ (After.ext _) | refine Mut.trans ?_ (by assumption)))
      · go_enter Try.func6, Try.ntmps6
        go_wp2_with (go_at_call 9; refine (awake_any _).mono ?_; rintro e w1 ⟨rfl, hx⟩)
        go_ret
        refine ⟨rfl, ?_⟩
        (repeat (first | exact Mut.refl _ _ | assumption | apply Mut.alloc | apply Mut.drew | refine Mut.trans ?_ (After.ext _) | refine Mut.trans ?_ (by assumption)))
    · go_enter Try.func6, Try.ntmps6
      go_wp2_with (go_at_call 9; refine (awake_any _).mono ?_; rintro e w1 ⟨rfl, hx⟩)
      go_ret
      refine ⟨rfl, ?_⟩
      (repeat (first | exact Mut.refl _ _ | assumption | apply Mut.alloc | apply Mut.drew | refine Mut.trans ?_ (After.ext _) | refine Mut.trans ?_ (by assumption)))
  · go_enter Try.func6, Try.ntmps6
    go_wp2_with (go_at_call 9; refine (awake_any _).mono ?_; rintro e w1 ⟨rfl, hx⟩)
    go_ret
    refine ⟨rfl, ?_⟩
    (repeat (first | exact Mut.refl _ _ | assumption | apply Mut.alloc | apply Mut.drew | refine Mut.trans ?_ (After.ext _) | refine Mut.trans ?_ (by assumption)))
end Go.Proofs.Ytebpcknloakjfaa
