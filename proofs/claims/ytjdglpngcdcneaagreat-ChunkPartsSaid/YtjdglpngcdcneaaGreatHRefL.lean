/- Layer 7, the document's: the least tree. -/
import Derived.Test.YtjdglpngcdcneaaGreatHh
import Derived.BigQuiet
namespace Go.Proofs.YtjdglpngcdcneaaGreat
open Go.RowKit Go.WideShapes
set_option linter.unusedVariables false
set_option linter.unusedSimpArgs false
set_option linter.unusedSectionVars false
def leastP (W : Nat → Nat) (lv : Nat → Bool) (but : Int) : Nat → Int
  | 0 => -1
  | i + 1 => if (i : Int) ≠ but ∧ lv i = true ∧ (leastP W lv but i < 0 ∨ W i < W (leastP W lv but i).toNat) then i else leastP W lv but i
theorem leastP_form (W : Nat → Nat) (lv : Nat → Bool) (but : Int) : ∀ i, leastP W lv but i = -1 ∨ ∃ j : Nat, j < i ∧ leastP W lv but i = j
  | 0 => .inl rfl
  | i + 1 => by
    rw [leastP]
    split
    · exact .inr ⟨i, by omega, rfl⟩
    · rcases leastP_form W lv but i with h | ⟨j, h1, h2⟩
      · exact .inl h
      · exact .inr ⟨j, by omega, h2⟩
set_option maxRecDepth 20000 in
set_option maxHeartbeats 2000000 in
theorem rleast_any (W : Nat → Nat) (lv : Nat → Bool) (vb : Nat → Value) (g N c : Nat) (but : Int) (hb : -1 ≤ but ∧ but ≤ 1000000) (hN : N ≤ 1000000) (w : World)
    (h0 : ∀ k, k < N → w.cell? ⟨g, k * 3, none⟩ = some (.int .u64 (W k))) (h1 : ∀ k, k < N → w.cell? ⟨g, k * 3 + 1, none⟩ = some (vb k))
    (hv : ∀ k, k < N → (lv k = true → ∃ A n c, vb k = .slice (some A) n c) ∧ (lv k = false → vb k = .slice none 0 0)) :
    Calls Tryz.prog 78 #[.slice (some ⟨g, 0, none⟩) N c, .int .i64 but] w fun e w' => e = .returned (.int .i64 (leastP W lv but N)) ∧ Ext w w' := by
  go_enter Tryz.func78, Tryz.ntmps78
  go_wp2_with fail
  go_loopw [5, 6] (fun v5 v6 wr => ∃ i : Nat, v5 = .int .i64 (leastP W lv but i) ∧ v6 = .int .i64 i ∧ i ≤ N ∧ Ext w wr) (fun _ v6 _ => N - (intOf v6).toNat)
  case atStart => exact ⟨0, rfl, rfl, Nat.zero_le _, Mut.refl _ _⟩
  case round =>
    obtain ⟨i, rfl, rfl, hi, x⟩ := hrel
    by_cases hlt : i < N
    · have hl1 : (i : Int) < (N : Int) := by omega
      have ki0 := x.cell (h0 i hlt)
      have ki1 := x.cell (h1 i hlt)
      obtain ⟨hv1, hv0⟩ := hv i hlt
      have hS : leastP W lv but (i + 1) = if (i : Int) ≠ but ∧ lv i = true ∧ (leastP W lv but i < 0 ∨ W i < W (leastP W lv but i).toNat) then (i : Int) else leastP W lv but i := rfl
      by_cases hbut : (i : Int) = but
      · have HE : Hid (leastP W lv but (i + 1) = leastP W lv but i) := Lib.hid (by rw [hS, if_neg (fun h => h.1 hbut)])
        have hb2 : ((i : Int) != but) = false := by rw [bne_eq_false_iff_eq]; exact hbut
        clear hS hbut hv1 hv0
        generalize leastP W lv but i = q at *
        go_wp2_with fail
        (refine wp_region_after (by kernel_rfl) (by kernel_rfl) ?_; (repeat (first | go_big_quiet_skip | (go_big_quiet_want; first | (fail; simp only [Act.put, List.setIfInBounds_toArray, List.set_cons_succ, List.set_cons_zero]; go_big_quiet_on) | (go_big_quiet_op; first | go_big_quiet_on | (apply Exists.intro; refine ⟨fun _ => ?_, ?_⟩; (· (fail)); go_big_quiet_on))))); refine wpQuiet_nil ?_; rintro _ ⟨y, rfl⟩)
        go_wp2_with fail
        exact ⟨⟨i + 1, by rw [HE.out], by go_num, by omega, x.trans y.ext⟩, by simp only [intOf]; omega⟩
      · have hb2 : ((i : Int) != but) = true := by rw [bne_iff_ne]; exact hbut
        cases hlv : lv i with
        | false =>
          have HE : Hid (leastP W lv but (i + 1) = leastP W lv but i) := Lib.hid (by rw [hS, if_neg (fun h => by rw [hlv] at h; exact Bool.noConfusion h.2.1)])
          rw [hv0 hlv] at ki1
          have qi1 := fun y : After wr => (After.ext y).cell ki1
          clear hS hbut hv1 hv0
          generalize leastP W lv but i = q at *
          go_wp2_with fail
          (refine wp_region_after (by kernel_rfl) (by kernel_rfl) ?_; (repeat (first | go_big_quiet_skip | (go_big_quiet_want; first | (fail; simp only [Act.put, List.setIfInBounds_toArray, List.set_cons_succ, List.set_cons_zero]; go_big_quiet_on) | (go_big_quiet_op; first | go_big_quiet_on | (apply Exists.intro; refine ⟨fun _ => ?_, ?_⟩; (· (fail)); go_big_quiet_on))))); refine wpQuiet_nil ?_; rintro _ ⟨y, rfl⟩)
          go_wp2_with fail
          exact ⟨⟨i + 1, by rw [HE.out], by go_num, by omega, x.trans y.ext⟩, by simp only [intOf]; omega⟩
        | true =>
          obtain ⟨ad, n1, c1, e1⟩ := hv1 hlv
          rw [e1] at ki1
          have qi0 := fun y : After wr => (After.ext y).cell ki0
          have qi1 := fun y : After wr => (After.ext y).cell ki1
          clear e1 hv1 hv0
          rcases leastP_form W lv but i with hq | ⟨j, hj, hq⟩
          · have HE : Hid (leastP W lv but (i + 1) = (i : Int)) := Lib.hid (by rw [hS, if_pos ⟨hbut, hlv, .inl (by rw [hq]; omega)⟩])
            rw [hq]
            clear hS hbut hq
            go_wp2_with fail
            (refine wp_region_after (by kernel_rfl) (by kernel_rfl) ?_; (repeat (first | go_big_quiet_skip | (go_big_quiet_want; first | (fail; simp only [Act.put, List.setIfInBounds_toArray, List.set_cons_succ, List.set_cons_zero]; go_big_quiet_on) | (go_big_quiet_op; first | go_big_quiet_on | (apply Exists.intro; refine ⟨fun _ => ?_, ?_⟩; (· (fail)); go_big_quiet_on))))); refine wpQuiet_nil ?_; rintro _ ⟨y, rfl⟩)
            go_wp2_with fail
            exact ⟨⟨i + 1, by rw [HE.out], by go_num, by omega, x.trans y.ext⟩, by simp only [intOf]; omega⟩
          · have kj0 := x.cell (h0 j (by omega))
            have qj0 := fun y : After wr => (After.ext y).cell kj0
            have hjN : (j : Int) < (N : Int) := by omega
            have hj0 : decide ((j : Int) < 0) = false := by rw [decide_eq_false_iff_not]; omega
            rw [hq] at hS ⊢
            by_cases hW : W i < W j
            · have HE : Hid (leastP W lv but (i + 1) = (i : Int)) := Lib.hid (by rw [hS, if_pos ⟨hbut, hlv, .inr (by simpa using hW)⟩])
              have hW2 : (W i : Int) < (W j : Int) := by omega
              clear hS hbut hq hW
              generalize W i = wi at *
              generalize W j = wj at *
              go_wp2_with fail
              (refine wp_region_after (by kernel_rfl) (by kernel_rfl) ?_; (repeat (first | go_big_quiet_skip | (go_big_quiet_want; first | (fail; simp only [Act.put, List.setIfInBounds_toArray, List.set_cons_succ, List.set_cons_zero]; go_big_quiet_on) | (go_big_quiet_op; first | go_big_quiet_on | (apply Exists.intro; refine ⟨fun _ => ?_, ?_⟩; (· (fail)); go_big_quiet_on))))); refine wpQuiet_nil ?_; rintro _ ⟨y, rfl⟩)
              go_wp2_with fail
              exact ⟨⟨i + 1, by rw [HE.out], by go_num, by omega, x.trans y.ext⟩, by simp only [intOf]; omega⟩
            · have HE : Hid (leastP W lv but (i + 1) = (j : Int)) := Lib.hid (by rw [hS, if_neg (fun h => by
                rcases h.2.2 with h | h
                · omega
                · exact hW (by simpa using h))])
              have hW2 : ¬ (W i : Int) < (W j : Int) := by omega
              clear hS hbut hq hW
              generalize W i = wi at *
              generalize W j = wj at *
              go_wp2_with fail
              (refine wp_region_after (by kernel_rfl) (by kernel_rfl) ?_; (repeat (first | go_big_quiet_skip | (go_big_quiet_want; first | (fail; simp only [Act.put, List.setIfInBounds_toArray, List.set_cons_succ, List.set_cons_zero]; go_big_quiet_on) | (go_big_quiet_op; first | go_big_quiet_on | (apply Exists.intro; refine ⟨fun _ => ?_, ?_⟩; (· (fail)); go_big_quiet_on))))); refine wpQuiet_nil ?_; rintro _ ⟨y, rfl⟩)
              go_wp2_with fail
              exact ⟨⟨i + 1, by rw [HE.out], by go_num, by omega, x.trans y.ext⟩, by simp only [intOf]; omega⟩
    · obtain rfl : i = N := by omega
      have hl1 : ¬ (i : Int) < (i : Int) := by omega
      go_wp2_with fail
      go_ret
      exact ⟨rfl, x⟩
end Go.Proofs.YtjdglpngcdcneaaGreat
