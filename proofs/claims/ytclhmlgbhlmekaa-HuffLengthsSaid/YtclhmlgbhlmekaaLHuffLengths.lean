/- rondeau/rondeaulaw07.HuffLengths: for every input it returns true, and its arguments read as they did; under no condition but the row's own. -/
import Derived.Test.YtclhmlgbhlmekaaRows
import Derived.Test.YtclhmlgbhlmekaaHa
import Derived.Test.YtclhmlgbhlmekaaHLaw5
namespace Go.Proofs.Ytclhmlgbhlmekaa.huffLengths
open Go.ChangeShapes Go.WideShapes Go.ChangeAt Go.RowKit
open Go.ChangeMaps (open_string shut_string)
set_option linter.unusedVariables false
theorem own : ownKnob Try.prog.godebug = none := by kernel_rfl
theorem laidOut : laidOutB Try.prog = true := by kernel_rfl
set_option maxRecDepth 100000 in
theorem lifted (os : Os) (started : os.Started) (H : Type) (enc : TypeId × Value → H) :
    ReturnsInHanded {} Try.checked os 3 .any (Rows.huffLengthsSpec.pre6 enc Try.prog Try.f3 Rows.huffLengthsRow.domain false) (Rows.huffLengthsSpec.post enc Try.prog Try.f3 false true false false) := by
  refine returnsInHanded_of_change_sized (C := Try.checked) own started (by kernel_rfl) Try.func3
    (ChangeSpec.witness6 (enc := enc) (C := Try.checked) false ⟨#[], #[.slice none 0 0], []⟩ 8 (by kernel_rfl) (by kernel_rfl) (by kernel_rfl) (by kernel_rfl)) ?_
  intro W base args ds gs before hval0 hW hcnd hsz0 _
  have hsz : (DataW.weightsEach Try.prog (Try.f3.params.toList ++ Rows.huffLengthsSpec.plain.varTypes Try.prog) (ds ++ gs)).all (· ≤ reachBytes) = true := hsz0
  have hval : ∀ (j : Nat) t v, Try.f3.params[j]? = some t → args[j]? = some v → Value.okWide Try.prog W .any base t v := hval0
  have hW' := hW
  obtain ⟨p, q, hA0, hV, rfl, hfz, hnd⟩ := hW
  have hA : DataW.TrodAll enc Try.prog W 0 (fun _ => true) true Try.f3.params.toList args.toList ds p := hA0
  rw [Try.params3] at hA hval hsz
  obtain ⟨v0, vs0, d0, ds0, p0, q0, hargs, rfl, rfl, h0, r0⟩ := trodAll_cons hA
  obtain ⟨rfl, rfl, rfl⟩ := trodAll_nil r0
  obtain rfl : args = #[v0] := by cases args; simp_all
  obtain ⟨rfl, rfl⟩ := trodVars_none hV
  obtain ⟨A0, len0, cap0, rfl⟩ := okWide_slice Try.underlying22 (hval 0 22 v0 rfl rfl)
  have k0 := h0
  have lt0 : ∀ x ∈ p0, x.block < W.heap.size := by obtain ⟨m, hm⟩ := k0; exact DataW.trod_lt m _ _ _ hm
  obtain ⟨l0, r0r, g0⟩ : ∃ l, ArgRow (repU .u64 18446744073709551616) 1 W A0 len0 l ∧ len0 ≤ 9223372036854775807 := by
    obtain ⟨fuel, hf⟩ := h0
    exact arg_of_trod (repU .u64 18446744073709551616) 1 Try.underlying22 (by kernel_rfl) (by decide) (repU_u64 Try.underlying24) hf
  obtain rfl : len0 = l0.length := r0r.1.symm
  clear hA0 hval0 hsz0 hsz
  refine (huffLengths_walk A0 cap0 l0  W r0r g0).mono fun e W' ⟨he, ext⟩ => ?_
  have bel := ext.below
  subst he
  exact ⟨_, rfl, _, _, _, [], _, [], hW', trodAll_mk1 (shut_bool Try.underlying4 _), (trodAll_cons_mk (Below.trod laidOut (by kernel_rfl) (of_decide_eq_true (by kernel_rfl)) k0 bel lt0) trodAll_mk0), rfl, bel.frame _, fun h => by cases h⟩
theorem over : Rows.huffLengthsRow.holds Try.pinned (OpenSpec.ofChange Rows.huffLengthsSpec) :=
  OpenClaim.holds_of_wide 3 Try.f3 rfl rfl rfl rfl rfl rfl rfl ⟨rfl, rfl, rfl, rfl, rfl⟩ rfl rfl rfl rfl rfl (by kernel_rfl) Try.func3 (by kernel_rfl)
    (of_decide_eq_true (by kernel_rfl)) (by unfold Func.isWrapper; first | (rw [if_pos (by decide +kernel)]; kernel_rfl) | (rw [if_neg (by decide +kernel)]; exact ⟨rfl, rfl⟩))
    (fun os started H enc _ => lifted os started H enc)
theorem proved : Rows.HuffLengthsSaid := over
end Go.Proofs.Ytclhmlgbhlmekaa.huffLengths
namespace Go.Proofs.Ytclhmlgbhlmekaa
/-- The row, under a short name, for the claim. -/
theorem huffLengths_holds : Rows.HuffLengthsSaid := huffLengths.proved
#print axioms huffLengths_holds
end Go.Proofs.Ytclhmlgbhlmekaa
