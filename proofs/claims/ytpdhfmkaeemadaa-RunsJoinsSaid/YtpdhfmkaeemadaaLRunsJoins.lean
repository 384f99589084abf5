/- rondeau/rondeaulaw04.RunsJoins: for every input it returns true, and its arguments read as they did; under no condition but the row's own. -/
import Derived.Test.YtpdhfmkaeemadaaRows
import Derived.Test.YtpdhfmkaeemadaaRow
import Derived.Test.YtpdhfmkaeemadaaArg
import Derived.Test.YtpdhfmkaeemadaaRLaws6
namespace Go.Proofs.Ytpdhfmkaeemadaa.runsJoins
open Go.ChangeShapes Go.WideShapes Go.ChangeAt Go.RowKit
open Go.ChangeMaps (open_string shut_string)
set_option linter.unusedVariables false
theorem own : ownKnob Try.prog.godebug = none := by kernel_rfl
theorem laidOut : laidOutB Try.prog = true := by kernel_rfl
set_option maxRecDepth 100000 in
theorem lifted (os : Os) (started : os.Started) (H : Type) (enc : TypeId × Value → H) :
    ReturnsInHanded {} Try.checked os 6 .any (Rows.runsJoinsSpec.pre6 enc Try.prog Try.f6 Rows.runsJoinsRow.domain false) (Rows.runsJoinsSpec.post enc Try.prog Try.f6 false true false false) := by
  refine returnsInHanded_of_change_sized (C := Try.checked) own started (by kernel_rfl) Try.func6
    (ChangeSpec.witness6 (enc := enc) (C := Try.checked) false ⟨#[], #[.slice none 0 0, .slice none 0 0], []⟩ 8 (by kernel_rfl) (by kernel_rfl) (by kernel_rfl) (by kernel_rfl)) ?_
  intro W base args ds gs before hval0 hW hcnd hsz0 _
  have hsz : (DataW.weightsEach Try.prog (Try.f6.params.toList ++ Rows.runsJoinsSpec.plain.varTypes Try.prog) (ds ++ gs)).all (· ≤ reachBytes) = true := hsz0
  have hval : ∀ (j : Nat) t v, Try.f6.params[j]? = some t → args[j]? = some v → Value.okWide Try.prog W .any base t v := hval0
  have hW' := hW
  obtain ⟨p, q, hA0, hV, rfl, hfz, hnd⟩ := hW
  have hA : DataW.TrodAll enc Try.prog W 0 (fun _ => true) true Try.f6.params.toList args.toList ds p := hA0
  rw [Try.params6] at hA hval hsz
  obtain ⟨v0, vs0, d0, ds0, p0, q0, hargs, rfl, rfl, h0, r0⟩ := trodAll_cons hA
  obtain ⟨v1, vs1, d1, ds1, p1, q1, rfl, rfl, rfl, h1, r1⟩ := trodAll_cons r0
  obtain ⟨rfl, rfl, rfl⟩ := trodAll_nil r1
  obtain rfl : args = #[v0, v1] := by cases args; simp_all
  obtain ⟨rfl, rfl⟩ := trodVars_none hV
  obtain ⟨A0, len0, cap0, rfl⟩ := okWide_slice Try.underlying22 (hval 0 22 v0 rfl rfl)
  have k0 := h0
  have lt0 : ∀ x ∈ p0, x.block < W.heap.size := by obtain ⟨m, hm⟩ := k0; exact DataW.trod_lt m _ _ _ hm
  obtain ⟨l0, r0r, g0⟩ : ∃ l, ArgRow (repU .u64 18446744073709551616) 1 W A0 len0 l ∧ len0 ≤ 9223372036854775807 := by
    obtain ⟨fuel, hf⟩ := h0
    exact arg_of_trod (repU .u64 18446744073709551616) 1 Try.underlying22 (by kernel_rfl) (by decide) (repU_u64 Try.underlying34) hf
  have g0 : len0 ≤ 140737488351232 := by
    obtain ⟨fuel, hf⟩ := k0
    rcases arg_sized Try.underlying22 hf with h0 | ⟨el, sp, hd, hl⟩
    · omega
    · have z := sized_slice hsz (j := 0) (t := 22) rfl (by rw [← hd]; rfl) Try.underlying22
      rw [show Try.prog.bytesOf 34 = 8 from by kernel_rfl] at z
      have z2 := reachBytes_lt
      have z3 : reachBytes = 140737488351232 := by decide
      omega
  obtain rfl : len0 = l0.length := r0r.1.symm
  obtain ⟨A1, len1, cap1, rfl⟩ := okWide_slice Try.underlying22 (hval 1 22 v1 rfl rfl)
  have k1 := h1
  have lt1 : ∀ x ∈ p1, x.block < W.heap.size := by obtain ⟨m, hm⟩ := k1; exact DataW.trod_lt m _ _ _ hm
  obtain ⟨l1, r1r, g1⟩ : ∃ l, ArgRow (repU .u64 18446744073709551616) 1 W A1 len1 l ∧ len1 ≤ 9223372036854775807 := by
    obtain ⟨fuel, hf⟩ := h1
    exact arg_of_trod (repU .u64 18446744073709551616) 1 Try.underlying22 (by kernel_rfl) (by decide) (repU_u64 Try.underlying34) hf
  have g1 : len1 ≤ 140737488351232 := by
    obtain ⟨fuel, hf⟩ := k1
    rcases arg_sized Try.underlying22 hf with h0 | ⟨el, sp, hd, hl⟩
    · omega
    · have z := sized_slice hsz (j := 1) (t := 22) rfl (by rw [← hd]; rfl) Try.underlying22
      rw [show Try.prog.bytesOf 34 = 8 from by kernel_rfl] at z
      have z2 := reachBytes_lt
      have z3 : reachBytes = 140737488351232 := by decide
      omega
  obtain rfl : len1 = l1.length := r1r.1.symm
  clear hA0 hval0 hsz0 hsz
  refine (runsJoins_walk A0 cap0 l0 A1 cap1 l1  W r0r r1r g0 g1).mono fun e W' ⟨he, ext⟩ => ?_
  have bel := ext.below
  subst he
  exact ⟨_, rfl, _, _, _, [], _, [], hW', trodAll_mk1 (shut_bool Try.underlying4 _), (trodAll_cons_mk (Below.trod laidOut (by kernel_rfl) (of_decide_eq_true (by kernel_rfl)) k0 bel lt0) (trodAll_cons_mk (Below.trod laidOut (by kernel_rfl) (of_decide_eq_true (by kernel_rfl)) k1 bel lt1) trodAll_mk0)), rfl, bel.frame _, fun h => by cases h⟩
theorem over : Rows.runsJoinsRow.holds Try.pinned (OpenSpec.ofChange Rows.runsJoinsSpec) :=
  OpenClaim.holds_of_wide 6 Try.f6 rfl rfl rfl rfl rfl rfl rfl ⟨rfl, rfl, rfl, rfl, rfl⟩ rfl rfl rfl rfl rfl (by kernel_rfl) Try.func6 (by kernel_rfl)
    (of_decide_eq_true (by kernel_rfl)) (by unfold Func.isWrapper; first | (rw [if_pos (by decide +kernel)]; kernel_rfl) | (rw [if_neg (by decide +kernel)]; exact ⟨rfl, rfl⟩))
    (fun os started H enc _ => lifted os started H enc)
theorem proved : Rows.RunsJoinsSaid := over
end Go.Proofs.Ytpdhfmkaeemadaa.runsJoins
namespace Go.Proofs.Ytpdhfmkaeemadaa
/-- The row, under a short name, for the claim. -/
theorem runsJoins_holds : Rows.RunsJoinsSaid := runsJoins.proved
#print axioms runsJoins_holds
end Go.Proofs.Ytpdhfmkaeemadaa
