/- rondeau/rondeaulaw21.ChunkParts: for every input it returns true, and its arguments read as they did; under no condition but the row's own. -/
import Derived.Test.YtjdglpngcdcneaaGreatRows
import Derived.Test.YtjdglpngcdcneaaGreatHa
import Derived.Test.YtjdglpngcdcneaaGreatELaw6
namespace Go.Proofs.YtjdglpngcdcneaaGreat.chunkParts
open Go.ChangeShapes Go.WideShapes Go.ChangeAt Go.RowKit
open Go.ChangeMaps (open_string shut_string)
set_option linter.unusedVariables false
theorem own : ownKnob Tryz.prog.godebug = none := by kernel_rfl
theorem laidOut : laidOutB Tryz.prog = true := by kernel_rfl
set_option maxRecDepth 100000 in
theorem lifted (os : Os) (started : os.Started) (H : Type) (enc : TypeId × Value → H) :
    ReturnsInHanded {} Tryz.checked os 5 .any (Rows.chunkPartsSpec.pre6 enc Tryz.prog Tryz.f5 Rows.chunkPartsRow.domain false) (Rows.chunkPartsSpec.post enc Tryz.prog Tryz.f5 false true false false) := by
  refine returnsInHanded_of_change_sized (C := Tryz.checked) own started (by kernel_rfl) Tryz.func5
    (ChangeSpec.witness6 (enc := enc) (C := Tryz.checked) false ⟨#[], #[.slice none 0 0, .slice none 0 0, .slice none 0 0], []⟩ 8 (by kernel_rfl) (by kernel_rfl) (by kernel_rfl) (by kernel_rfl)) ?_
  intro W base args ds gs before hval0 hW hcnd hsz0 _
  have hsz : (DataW.weightsEach Tryz.prog (Tryz.f5.params.toList ++ Rows.chunkPartsSpec.plain.varTypes Tryz.prog) (ds ++ gs)).all (· ≤ reachBytes) = true := hsz0
  have hval : ∀ (j : Nat) t v, Tryz.f5.params[j]? = some t → args[j]? = some v → Value.okWide Tryz.prog W .any base t v := hval0
  have hW' := hW
  obtain ⟨p, q, hA0, hV, rfl, hfz, hnd⟩ := hW
  have hA : DataW.TrodAll enc Tryz.prog W 0 (fun _ => true) true Tryz.f5.params.toList args.toList ds p := hA0
  rw [Tryz.params5] at hA hval hsz
  obtain ⟨v0, vs0, d0, ds0, p0, q0, hargs, rfl, rfl, h0, r0⟩ := trodAll_cons hA
  obtain ⟨v1, vs1, d1, ds1, p1, q1, rfl, rfl, rfl, h1, r1⟩ := trodAll_cons r0
  obtain ⟨v2, vs2, d2, ds2, p2, q2, rfl, rfl, rfl, h2, r2⟩ := trodAll_cons r1
  obtain ⟨rfl, rfl, rfl⟩ := trodAll_nil r2
  obtain rfl : args = #[v0, v1, v2] := by cases args; simp_all
  obtain ⟨rfl, rfl⟩ := trodVars_none hV
  obtain ⟨A0, len0, cap0, rfl⟩ := okWide_slice Tryz.underlying22 (hval 0 22 v0 rfl rfl)
  have k0 := h0
  have lt0 : ∀ x ∈ p0, x.block < W.heap.size := by obtain ⟨m, hm⟩ := k0; exact DataW.trod_lt m _ _ _ hm
  obtain ⟨l0, r0r, g0⟩ : ∃ l, ArgRow repEv 5 W A0 len0 l ∧ len0 ≤ 9223372036854775807 := by
    obtain ⟨fuel, hf⟩ := h0
    exact arg_of_trod repEv 5 Tryz.underlying22 (by kernel_rfl) (by decide) repEv_of hf
  have g0 : len0 ≤ 140737488351232 := by
    obtain ⟨fuel, hf⟩ := k0
    rcases arg_sized Tryz.underlying22 hf with h0 | ⟨el, sp, hd, hl⟩
    · omega
    · have z := sized_slice hsz (j := 0) (t := 22) rfl (by rw [← hd]; rfl) Tryz.underlying22
      rw [show Tryz.prog.bytesOf 36 = 40 from by kernel_rfl] at z
      have z2 := reachBytes_lt
      have z3 : reachBytes = 140737488351232 := by decide
      omega
  obtain rfl : len0 = l0.length := r0r.1.symm
  obtain ⟨A1, len1, cap1, rfl⟩ := okWide_slice Tryz.underlying22 (hval 1 22 v1 rfl rfl)
  have k1 := h1
  have lt1 : ∀ x ∈ p1, x.block < W.heap.size := by obtain ⟨m, hm⟩ := k1; exact DataW.trod_lt m _ _ _ hm
  obtain ⟨l1, r1r, g1⟩ : ∃ l, ArgRow repEv 5 W A1 len1 l ∧ len1 ≤ 9223372036854775807 := by
    obtain ⟨fuel, hf⟩ := h1
    exact arg_of_trod repEv 5 Tryz.underlying22 (by kernel_rfl) (by decide) repEv_of hf
  have g1 : len1 ≤ 140737488351232 := by
    obtain ⟨fuel, hf⟩ := k1
    rcases arg_sized Tryz.underlying22 hf with h0 | ⟨el, sp, hd, hl⟩
    · omega
    · have z := sized_slice hsz (j := 1) (t := 22) rfl (by rw [← hd]; rfl) Tryz.underlying22
      rw [show Tryz.prog.bytesOf 36 = 40 from by kernel_rfl] at z
      have z2 := reachBytes_lt
      have z3 : reachBytes = 140737488351232 := by decide
      omega
  obtain rfl : len1 = l1.length := r1r.1.symm
  obtain ⟨A2, len2, cap2, rfl⟩ := okWide_slice Tryz.underlying22 (hval 2 22 v2 rfl rfl)
  have k2 := h2
  have lt2 : ∀ x ∈ p2, x.block < W.heap.size := by obtain ⟨m, hm⟩ := k2; exact DataW.trod_lt m _ _ _ hm
  obtain ⟨l2, r2r, g2⟩ : ∃ l, ArgRow repEv 5 W A2 len2 l ∧ len2 ≤ 9223372036854775807 := by
    obtain ⟨fuel, hf⟩ := h2
    exact arg_of_trod repEv 5 Tryz.underlying22 (by kernel_rfl) (by decide) repEv_of hf
  have g2 : len2 ≤ 140737488351232 := by
    obtain ⟨fuel, hf⟩ := k2
    rcases arg_sized Tryz.underlying22 hf with h0 | ⟨el, sp, hd, hl⟩
    · omega
    · have z := sized_slice hsz (j := 2) (t := 22) rfl (by rw [← hd]; rfl) Tryz.underlying22
      rw [show Tryz.prog.bytesOf 36 = 40 from by kernel_rfl] at z
      have z2 := reachBytes_lt
      have z3 : reachBytes = 140737488351232 := by decide
      omega
  obtain rfl : len2 = l2.length := r2r.1.symm
  clear hA0 hval0 hsz0 hsz
  refine (chunkParts_walk A0 cap0 l0 A1 cap1 l1 A2 cap2 l2  W r0r r1r r2r g0 g1 g2).mono fun e W' ⟨he, ext⟩ => ?_
  have bel := ext.below
  subst he
  exact ⟨_, rfl, _, _, _, [], _, [], hW', trodAll_mk1 (shut_bool Tryz.underlying4 _), (trodAll_cons_mk (Below.trod laidOut (by kernel_rfl) (of_decide_eq_true (by kernel_rfl)) k0 bel lt0) (trodAll_cons_mk (Below.trod laidOut (by kernel_rfl) (of_decide_eq_true (by kernel_rfl)) k1 bel lt1) (trodAll_cons_mk (Below.trod laidOut (by kernel_rfl) (of_decide_eq_true (by kernel_rfl)) k2 bel lt2) trodAll_mk0))), rfl, bel.frame _, fun h => by cases h⟩
theorem over : Rows.chunkPartsRow.holds Tryz.pinned (OpenSpec.ofChange Rows.chunkPartsSpec) :=
  OpenClaim.holds_of_wide 5 Tryz.f5 rfl rfl rfl rfl rfl rfl rfl ⟨rfl, rfl, rfl, rfl, rfl⟩ rfl rfl rfl rfl rfl (by kernel_rfl) Tryz.func5 (by kernel_rfl)
    (of_decide_eq_true (by kernel_rfl)) (by unfold Func.isWrapper; first | (rw [if_pos (by decide +kernel)]; kernel_rfl) | (rw [if_neg (by decide +kernel)]; exact ⟨rfl, rfl⟩))
    (fun os started H enc _ => lifted os started H enc)
theorem proved : Rows.ChunkPartsSaid := over
end Go.Proofs.YtjdglpngcdcneaaGreat.chunkParts
namespace Go.Proofs.YtjdglpngcdcneaaGreat
/-- The row, under a short name, for the claim. -/
theorem chunkParts_holds : Rows.ChunkPartsSaid := chunkParts.proved
#print axioms chunkParts_holds
end Go.Proofs.YtjdglpngcdcneaaGreat
