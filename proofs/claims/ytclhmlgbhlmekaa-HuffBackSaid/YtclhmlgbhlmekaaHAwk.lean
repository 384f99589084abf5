/- Layer 7: what awake asks for: plain. -/
import Derived.Test.YtclhmlgbhlmekaaHBack
namespace Go.Proofs.Ytclhmlgbhlmekaa
open Go.RowKit
set_option linter.unusedVariables false
set_option linter.unusedSimpArgs false
theorem leafS_skip (f : Nat → Nat) (i : Nat) : ∀ k, i ≤ k → (∀ j, i ≤ j → j < k → f j = 0) → leafS f k = leafS f i
  | 0, h, _ => by rw [Nat.le_zero.1 h]
  | k + 1, h, hz => by
    by_cases e : i = k + 1
    · rw [e]
    · rw [leafS, if_neg (by rw [hz k (by omega) (by omega)]; omega), leafS_skip f i k (by omega) (fun j h1 h2 => hz j h1 (by omega))]
def abca : List UInt8 := [97, 98, 99, 97]
def sAbca : HS := ⟨[(2, 0), (1, 1), (1, 2)], 3, updA (updA (updA (fun _ => []) 0 [97]) 1 [98]) 2 [99], fun _ => 0⟩
theorem abca_off {j : Nat} (h : j < 97 ∨ 100 ≤ j) : cntF abca j = 0 := cntF_none (fun c hc => by
  unfold abca at hc
  simp only [List.mem_cons, List.not_mem_nil, or_false] at hc
  rcases hc with rfl | rfl | rfl | rfl <;> (show (_ : Nat) ≠ j; simp; omega))
theorem leaf_abca : leafS (cntF abca) 256 = sAbca := by
  rw [leafS_skip (cntF abca) 100 256 (by omega) (fun j h _ => abca_off (.inr h)), leafS, if_pos (by decide), leafS, if_pos (by decide), leafS, if_pos (by decide), leafS_skip (cntF abca) 0 97 (by omega) (fun j _ h => abca_off (.inl h))]
  rfl
def L1 : Nat → Nat := fun i => if i = 97 then 1 else if i = 98 then 2 else if i = 99 then 2 else 0
theorem len_abca : lenT (cntF abca) = L1 := by
  have h97 : lenS sAbca 97 = 1 := by decide
  have h98 : lenS sAbca 98 = 2 := by decide
  have h99 : lenS sAbca 99 = 2 := by decide
  have e : lenT (cntF abca) = lenS sAbca := by show lenS (leafS _ 256) = _; rw [leaf_abca]
  funext i
  unfold L1
  split
  · subst i; rw [e]; exact h97
  · split
    · subst i; rw [e]; exact h98
    · split
      · subst i; rw [e]; exact h99
      · rcases Nat.lt_or_ge i 256 with h | h
        · exact (lenT_zero_iff _ (cntF_small (by decide)) h).2 (abca_off (by omega))
        · exact lenT_off (by decide) h
theorem codE_L1 : codE L1 = 0 := by rw [← len_abca]; exact codE_text (by decide)
theorem cod97 : codT L1 97 = 0 := by rw [codT_eq codE_L1 (by decide) (by decide)]; decide +kernel
theorem cod98 : codT L1 98 = 2 := by rw [codT_eq codE_L1 (by decide) (by decide)]; decide +kernel
theorem cod99 : codT L1 99 = 3 := by rw [codT_eq codE_L1 (by decide) (by decide)]; decide +kernel
theorem codE_far : codE (upd (fun _ => 0) 0 57) = 1 := by
  unfold codE
  rw [if_pos]
  unfold greatT
  rw [List.any_eq_true]
  exact ⟨0, List.mem_range.2 (by decide), by decide⟩
theorem codE_half : codE (upd (upd (fun _ => 0) 3 1) 4 2) = 3 := by decide +kernel
theorem pack_nil : packP [] = [0, 1, 0, 255, 1] := by
  have e : lenT (cntF []) = fun _ => 0 := by
    funext i
    rcases Nat.lt_or_ge i 256 with h | h
    · exact (lenT_zero_iff _ (cntF_small (by decide)) h).2 rfl
    · exact lenT_off (by decide) h
  have h1 : lensL (fun _ => 0) = expand [(0, 256)] := by
    unfold lensL expand
    rw [List.flatMap_singleton, List.map_const', List.length_range]
  show vb 0 ++ rbl (pk (lensL (lenT (cntF [])))) ++ pack [] = _
  rw [e, h1, pk_expand _ (by simp [okR])]
  show vb 0 ++ (vb 1 ++ (vb 0 ++ vb 255 ++ [])) ++ pack [] = _
  rw [vb_small (show 0 < 128 by decide), vb_small (show 1 < 128 by decide), vb_big (show ¬ 255 < 128 by decide), vb_small (show 255 / 128 < 128 by decide)]
  decide
end Go.Proofs.Ytclhmlgbhlmekaa
