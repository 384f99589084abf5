-- by a program of this work, out of the translation: functions, and what a call of each comes to
import Derived.Test.YtklkboibpglhjaaGb
import Derived.Test.YtklkboibpglhjaaPRefx0
namespace Go.Proofs.Ytklkboibpglhjaa.PRef
open Go.RowKit Go.Proofs.YtklkboibpglhjaaW.PrintWords Go.Proofs.YtklkboibpglhjaaW.PrintLast Go.Proofs.YtklkboibpglhjaaW.PrintMore
attribute [local go_sem] max2_int min2_int max_two min_two max_three min_three max_four min_four   -- for this text's walks alone
set_option linter.unusedVariables false
set_option linter.unusedSimpArgs false

/-! ### rondeauref09_form: function 32: by hand -/
def rondeauref09_form.f (k : Nat) (a0 : Int) : Option (ByteArray) := some (formOf a0)
theorem rondeauref09_form.mono : ∀ a0 k, LeO (rondeauref09_form.f k a0) (rondeauref09_form.f (k + 1) a0) := fun _ _ _ h => h
theorem rondeauref09_form.calls (k : Nat) (a0 : Int) (r : ByteArray) (w : World) (h : rondeauref09_form.f k a0 = some r) :
    Calls Try.prog 32 #[.int .i64 a0] w fun e w' => e = .returned (.string r) ∧ Drawn0 w w' := by
  obtain rfl := Option.some.inj h
  exact (form_any a0 w).mono fun e w' ⟨he, hx⟩ => ⟨he, hx ▸ Drawn0.refl w⟩
/-! ### rondeauref09_most: function 33: by hand -/
def rondeauref09_most.f (k : Nat) (a0 : Int) : Option (Int) := if a0 = 48 ∨ a0 = 114 ∨ a0 = 103 ∨ a0 = 100 ∨ a0 = 109 ∨ a0 = 112 ∨ a0 = 110 then some (mostOf a0.toNat) else none
theorem rondeauref09_most.mono : ∀ a0 k, LeO (rondeauref09_most.f k a0) (rondeauref09_most.f (k + 1) a0) := fun _ _ _ h => h
theorem rondeauref09_most.calls (k : Nat) (a0 : Int) (r : Int) (w : World) (h : rondeauref09_most.f k a0 = some r) :
    Calls Try.prog 33 #[.int .u8 a0] w fun e w' => e = .returned (.int .u64 r) ∧ Drawn0 w w' := by
  unfold rondeauref09_most.f at h
  by_cases hb : a0 = 48 ∨ a0 = 114 ∨ a0 = 103 ∨ a0 = 100 ∨ a0 = 109 ∨ a0 = 112 ∨ a0 = 110
  · rw [if_pos hb] at h
    obtain rfl := Option.some.inj h
    obtain ⟨n, rfl⟩ : ∃ n : Nat, a0 = n := ⟨a0.toNat, by omega⟩
    exact (most_any n (by omega) w).mono fun e w' ⟨he, hx⟩ => ⟨he, hx ▸ Drawn0.refl w⟩
  · rw [if_neg hb] at h; cases h

end Go.Proofs.Ytklkboibpglhjaa.PRef
