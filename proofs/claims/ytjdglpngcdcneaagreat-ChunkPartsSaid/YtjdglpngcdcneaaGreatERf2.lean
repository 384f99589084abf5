/- Layer 21: the document's events: does a kind name it? -/
import Derived.Test.YtjdglpngcdcneaaGreatERf
namespace Go.Proofs.YtjdglpngcdcneaaGreat
open Go.RowKit Go.WideShapes
set_option linter.unusedVariables false
set_option linter.unusedSimpArgs false
set_option linter.unusedSectionVars false
section
variable (w : World)
set_option maxHeartbeats 4000000 in
theorem rhas_any (s : ByteArray) (c : Nat) (hs : s.size ≤ 100) (B : Bool) (hy : B = true → ∃ i, ∃ h : i < s.size, (s[i]'h).toNat = c) (hn : B = false → ∀ i, ∀ h : i < s.size, (s[i]'h).toNat ≠ c) :
    Calls Tryz.prog 31 #[.string s, .int .u8 (c : Nat)] w fun e w' => e = .returned (.bool B) ∧ w = w' := by
  go_enter Tryz.func31, Tryz.ntmps31
  go_wp2_with fail
  go_loopw [5] (fun v5 wr => ∃ i : Nat, v5 = .int .i64 i ∧ i ≤ s.size ∧ Hid (∀ j, ∀ h : j < s.size, j < i → (s[j]'h).toNat ≠ c) ∧ w = wr) (fun v5 _ => s.size - (intOf v5).toNat)
  case atStart => exact ⟨0, rfl, by omega, Lib.hid (fun j _ hj => absurd hj (by omega)), rfl⟩
  case round =>
    obtain ⟨i, rfl, hi, HA, rfl⟩ := hrel
    by_cases hlt : i < s.size
    · have hlti : (i : Int) < (s.size : Int) := by omega
      have hl0 : (0 : Int) ≤ (i : Int) := by omega
      obtain ⟨x, hx⟩ : ∃ x : Nat, (s[i]'hlt).toNat = x := ⟨_, rfl⟩
      by_cases he : x = c
      · have hB : B = true := by
          cases B
          · exact absurd (hx.trans he) (hn rfl i hlt)
          · rfl
        subst hB
        have heq : (((s[i]'hlt).toNat : Int) == (c : Int)) = true := by rw [hx, he]; simp
        clear hy hn hx he
        go_wp2_with fail
        go_ret
        exact ⟨rfl, rfl⟩
      · have heq : (((s[i]'hlt).toNat : Int) == (c : Int)) = false := by rw [hx, beq_eq_false_iff_ne]; omega
        have HA2 : Hid (∀ j, ∀ h : j < s.size, j < i + 1 → (s[j]'h).toNat ≠ c) := Lib.hid (fun j h hj => by
          by_cases e : j = i
          · subst e; rw [hx]; exact he
          · exact HA.out j h (by omega))
        clear hy hn hx he
        go_wp2_with fail
        exact ⟨⟨i + 1, by go_num, by omega, HA2, (by first | rfl | trivial)⟩, by simp only [intOf]; omega⟩
    · have hlti : ¬ (i : Int) < (s.size : Int) := by omega
      have hB : B = false := by
        cases B
        · rfl
        · obtain ⟨j, hj, e⟩ := hy rfl
          exact absurd e (HA.out j hj (by omega))
      subst hB
      go_wp2_with fail
      go_ret
      exact ⟨rfl, rfl⟩
theorem namesE_cases (k : Int) : (tickB k = true ∧ ringB k = true ∧ valB k = false ∧ namesE k = ⟨#[82, 84]⟩) ∨ (tickB k = false ∧ ringB k = true ∧ valB k = false ∧ namesE k = ⟨#[82]⟩) ∨ (tickB k = false ∧ ringB k = false ∧ valB k = true ∧ namesE k = ⟨#[86]⟩) ∨ (tickB k = false ∧ ringB k = false ∧ valB k = false ∧ namesE k = ⟨#[]⟩) := by
  unfold namesE
  by_cases h1 : tickB k = true
  · refine .inl ⟨h1, ?_, ?_, by rw [if_pos h1]⟩
    · unfold tickB at h1; unfold ringB; have := of_decide_eq_true h1; exact decide_eq_true (by omega)
    · unfold tickB at h1; unfold valB; have := of_decide_eq_true h1; exact decide_eq_false (by omega)
  · have h1' : tickB k = false := by simpa using h1
    have h1n := h1'
    unfold tickB at h1n
    have h1n := of_decide_eq_false h1n
    rw [if_neg h1]
    by_cases h2 : 5 ≤ k ∧ k ≤ 7
    · refine .inr (.inl ⟨h1', ?_, ?_, by rw [if_pos h2]⟩)
      · unfold ringB; exact decide_eq_true (by omega)
      · unfold valB; exact decide_eq_false (by omega)
    · rw [if_neg h2]
      have h3 : ringB k = false := by unfold ringB; exact decide_eq_false (by omega)
      by_cases h4 : valB k = true
      · exact .inr (.inr (.inl ⟨h1', h3, h4, by rw [if_pos h4]⟩))
      · exact .inr (.inr (.inr ⟨h1', h3, by simpa using h4, by rw [if_neg h4]⟩))
theorem rhas_ring (k : Int) : Calls Tryz.prog 31 #[.string (namesE k), .int .u8 82] w fun e w' => e = .returned (.bool (ringB k)) ∧ w = w' := by
  rcases namesE_cases k with ⟨h1, h2, h3, h4⟩ | ⟨h1, h2, h3, h4⟩ | ⟨h1, h2, h3, h4⟩ | ⟨h1, h2, h3, h4⟩
  all_goals
    rw [h4, h2]
    refine rhas_any w _ 82 (by decide) _ (fun h => ?_) (fun h => ?_)
  · exact ⟨0, by decide, rfl⟩
  · cases h
  · exact ⟨0, by decide, rfl⟩
  · cases h
  · cases h
  · intro i hi
    match i, hi with
    | 0, _ => show (86 : UInt8).toNat ≠ 82; decide
  · cases h
  · intro i hi
    exact absurd hi (by show ¬ i < 0; omega)
theorem rhas_tick (k : Int) : Calls Tryz.prog 31 #[.string (namesE k), .int .u8 84] w fun e w' => e = .returned (.bool (tickB k)) ∧ w = w' := by
  rcases namesE_cases k with ⟨h1, h2, h3, h4⟩ | ⟨h1, h2, h3, h4⟩ | ⟨h1, h2, h3, h4⟩ | ⟨h1, h2, h3, h4⟩
  all_goals
    rw [h4, h1]
    refine rhas_any w _ 84 (by decide) _ (fun h => ?_) (fun h => ?_)
  · exact ⟨1, by decide, rfl⟩
  · cases h
  · cases h
  · intro i hi
    match i, hi with
    | 0, _ => show (82 : UInt8).toNat ≠ 84; decide
  · cases h
  · intro i hi
    match i, hi with
    | 0, _ => show (86 : UInt8).toNat ≠ 84; decide
  · cases h
  · intro i hi
    exact absurd hi (by show ¬ i < 0; omega)
theorem rhas_val (k : Int) : Calls Tryz.prog 31 #[.string (namesE k), .int .u8 86] w fun e w' => e = .returned (.bool (valB k)) ∧ w = w' := by
  rcases namesE_cases k with ⟨h1, h2, h3, h4⟩ | ⟨h1, h2, h3, h4⟩ | ⟨h1, h2, h3, h4⟩ | ⟨h1, h2, h3, h4⟩
  all_goals
    rw [h4, h3]
    refine rhas_any w _ 86 (by decide) _ (fun h => ?_) (fun h => ?_)
  · cases h
  · intro i hi
    match i, hi with
    | 0, _ => show (82 : UInt8).toNat ≠ 86; decide
    | 1, _ => show (84 : UInt8).toNat ≠ 86; decide
  · cases h
  · intro i hi
    match i, hi with
    | 0, _ => show (82 : UInt8).toNat ≠ 86; decide
  · exact ⟨0, by decide, rfl⟩
  · cases h
  · cases h
  · intro i hi
    exact absurd hi (by show ¬ i < 0; omega)
end
theorem right_iff (th kd rg : Int) (tk vl : Nat) : rightE ⟨th, kd, rg, tk, vl⟩ ↔ (nameE kd).toList ≠ [] ∧ 0 ≤ th ∧ th ≤ 7 ∧ 0 ≤ rg ∧ rg ≤ 7 ∧ tk < 4611686018427387904 ∧ (ringB kd = true ∨ rg = 0) ∧ (tickB kd = true ∨ tk = 0) ∧ (valB kd = true ∨ vl = 0) := by
  rw [nameE_ne]
  unfold rightE bareE
  dsimp only
  constructor
  · rintro ⟨h1, h2, h3, h4, h5, h6, h7⟩
    rw [Ev.mk.injEq] at h2
    refine ⟨h1, h3, by omega, h5, by omega, h7, ?_, ?_, ?_⟩
    · by_cases c : ringB kd = true
      · exact .inl c
      · have := h2.2.2.1; rw [if_neg c] at this; exact .inr this
    · by_cases c : tickB kd = true
      · exact .inl c
      · have := h2.2.2.2.1; rw [if_neg c] at this; exact .inr this
    · by_cases c : valB kd = true
      · exact .inl c
      · have := h2.2.2.2.2; rw [if_neg c] at this; exact .inr this
  · rintro ⟨h1, h3, h4, h5, h6, h7, h8, h9, h10⟩
    refine ⟨h1, ?_, h3, by omega, h5, by omega, h7⟩
    rw [Ev.mk.injEq]
    refine ⟨rfl, rfl, ?_, ?_, ?_⟩
    · rcases h8 with c | c
      · rw [if_pos c]
      · rw [c]; simp
    · rcases h9 with c | c
      · rw [if_pos c]
      · rw [c]; simp
    · rcases h10 with c | c
      · rw [if_pos c]
      · rw [c]; simp
end Go.Proofs.YtjdglpngcdcneaaGreat
