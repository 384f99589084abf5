/- Layer 21, the document's: does a kind name it? -/
import Derived.Test.YtjdglpngcdcneaaGreatEArg
import Derived.Test.YtjdglpngcdcneaaGreatERf2
namespace Go.Proofs.YtjdglpngcdcneaaGreat
open Go.RowKit Go.WideShapes
set_option linter.unusedVariables false
set_option linter.unusedSimpArgs false
set_option linter.unusedSectionVars false
section
variable (w : World)
set_option maxHeartbeats 4000000 in
theorem rnm_any (e : Ev) (c : Nat) (hs : (namesE e.kd).size ≤ 100) (B : Bool) (hy : B = true → ∃ i, ∃ h : i < (namesE e.kd).size, ((namesE e.kd)[i]'h).toNat = c) (hn : B = false → ∀ i, ∀ h : i < (namesE e.kd).size, ((namesE e.kd)[i]'h).toNat ≠ c) :
    Calls Tryz.prog 24 #[evV e, .int .u8 (c : Nat)] w fun r w' => r = .returned (.bool B) ∧ Ext w w' := by
  have HM := Lib.hid (fun w => rnames_any w e.kd)
  obtain ⟨th, kd, rg, tk, vl⟩ := e
  dsimp only [evV] at hs hy hn HM ⊢
  generalize namesE kd = s at *
  have h := (St.start noB w).alloc #[.int .i64 th, .int .i64 kd, .int .i64 rg, .int .u64 tk, .int .u64 vl] 36
  have c1 : _ = some (Value.int .i64 kd) := cell_of_heap h.blk 1
  have HX := Lib.hid h.ends
  clear h
  go_enter Tryz.func24, Tryz.ntmps24
  go_wp2_with fail
  refine (HM.out _).mono ?_
  rintro _ _ ⟨rfl, rfl⟩
  clear c1
  generalize w.alloc (.cells #[.int .i64 th, .int .i64 kd, .int .i64 rg, .int .u64 tk, .int .u64 vl] 36) = w1 at HX ⊢
  generalize w.heap.size = b
  go_wp2_with fail
  go_loopw [6] (fun v5 wr => ∃ i : Nat, v5 = .int .i64 i ∧ i ≤ s.size ∧ Hid (∀ j, ∀ h : j < s.size, j < i → (s[j]'h).toNat ≠ c) ∧ w1 = wr) (fun v5 _ => s.size - (intOf v5).toNat)
  case atStart => exact ⟨0, rfl, by omega, Lib.hid (fun j _ hj => absurd hj (by omega)), rfl⟩
  case round =>
    obtain ⟨i, rfl, hi, HA, rfl⟩ := hrel
    by_cases hlt : i < s.size
    · have hlti : (i : Int) < (s.size : Int) := by omega
      have hl0 : (0 : Int) ≤ (i : Int) := by omega
      obtain ⟨x, hx⟩ : ∃ x : Nat, (s[i]'hlt).toNat = x := ⟨_, rfl⟩
      by_cases he : x = c
      · have hB : B = true := by
          cases B
          · exact absurd (hx.trans he) (hn rfl i hlt)
          · rfl
        subst hB
        have heq : (((s[i]'hlt).toNat : Int) == (c : Int)) = true := by rw [hx, he]; simp
        clear hy hn hx he
        go_wp2_with fail
        go_ret
        exact ⟨rfl, HX.out⟩
      · have heq : (((s[i]'hlt).toNat : Int) == (c : Int)) = false := by rw [hx, beq_eq_false_iff_ne]; omega
        have HA2 : Hid (∀ j, ∀ h : j < s.size, j < i + 1 → (s[j]'h).toNat ≠ c) := Lib.hid (fun j h hj => by
          by_cases e : j = i
          · subst e; rw [hx]; exact he
          · exact HA.out j h (by omega))
        clear hy hn hx he
        go_wp2_with fail
        exact ⟨⟨i + 1, by go_num, by omega, HA2, (by first | rfl | trivial)⟩, by simp only [intOf]; omega⟩
    · have hlti : ¬ (i : Int) < (s.size : Int) := by omega
      have hB : B = false := by
        cases B
        · rfl
        · obtain ⟨j, hj, e⟩ := hy rfl
          exact absurd e (HA.out j hj (by omega))
      subst hB
      go_wp2_with fail
      go_ret
      exact ⟨rfl, HX.out⟩
theorem rnm_ring (e : Ev) : Calls Tryz.prog 24 #[evV e, .int .u8 82] w fun r w' => r = .returned (.bool (ringB e.kd)) ∧ Ext w w' := by
  rcases namesE_cases e.kd with ⟨h1, h2, h3, h4⟩ | ⟨h1, h2, h3, h4⟩ | ⟨h1, h2, h3, h4⟩ | ⟨h1, h2, h3, h4⟩
  all_goals
    rw [h2]
    refine rnm_any w e 82 (by rw [h4]; decide) _ (fun h => ?_) (fun h => ?_)
    all_goals rw [h4]
  · exact ⟨0, by decide, rfl⟩
  · cases h
  · exact ⟨0, by decide, rfl⟩
  · cases h
  · cases h
  · intro i hi
    match i, hi with
    | 0, _ => show (86 : UInt8).toNat ≠ 82; decide
  · cases h
  · intro i hi
    exact absurd hi (by show ¬ i < 0; omega)
theorem rnm_tick (e : Ev) : Calls Tryz.prog 24 #[evV e, .int .u8 84] w fun r w' => r = .returned (.bool (tickB e.kd)) ∧ Ext w w' := by
  rcases namesE_cases e.kd with ⟨h1, h2, h3, h4⟩ | ⟨h1, h2, h3, h4⟩ | ⟨h1, h2, h3, h4⟩ | ⟨h1, h2, h3, h4⟩
  all_goals
    rw [h1]
    refine rnm_any w e 84 (by rw [h4]; decide) _ (fun h => ?_) (fun h => ?_)
    all_goals rw [h4]
  · exact ⟨1, by decide, rfl⟩
  · cases h
  · cases h
  · intro i hi
    match i, hi with
    | 0, _ => show (82 : UInt8).toNat ≠ 84; decide
  · cases h
  · intro i hi
    match i, hi with
    | 0, _ => show (86 : UInt8).toNat ≠ 84; decide
  · cases h
  · intro i hi
    exact absurd hi (by show ¬ i < 0; omega)
theorem rnm_val (e : Ev) : Calls Tryz.prog 24 #[evV e, .int .u8 86] w fun r w' => r = .returned (.bool (valB e.kd)) ∧ Ext w w' := by
  rcases namesE_cases e.kd with ⟨h1, h2, h3, h4⟩ | ⟨h1, h2, h3, h4⟩ | ⟨h1, h2, h3, h4⟩ | ⟨h1, h2, h3, h4⟩
  all_goals
    rw [h3]
    refine rnm_any w e 86 (by rw [h4]; decide) _ (fun h => ?_) (fun h => ?_)
    all_goals rw [h4]
  · cases h
  · intro i hi
    match i, hi with
    | 0, _ => show (82 : UInt8).toNat ≠ 86; decide
    | 1, _ => show (84 : UInt8).toNat ≠ 86; decide
  · cases h
  · intro i hi
    match i, hi with
    | 0, _ => show (82 : UInt8).toNat ≠ 86; decide
  · exact ⟨0, by decide, rfl⟩
  · cases h
  · cases h
  · intro i hi
    exact absurd hi (by show ¬ i < 0; omega)
end
end Go.Proofs.YtjdglpngcdcneaaGreat
