/- Layer 21: the streams, as things that a call holds. -/
import Derived.Test.YtjdglpngcdcneaaGreatEPart
namespace Go.Proofs.YtjdglpngcdcneaaGreat
open Go.RowKit Go.WideShapes
set_option linter.unusedVariables false
set_option linter.unusedSimpArgs false
set_option linter.unusedSectionVars false
section
variable {S : Nat → Prop} {W w : World} {M : List Thing}
set_option maxRecDepth 20000 in
set_option maxHeartbeats 2000000 in
theorem named_st (h : St S W w M) (f : Fn) : Calls Tryz.prog 61 #[.func f #[] #[]] w fun e w' => ∃ fb, e = .returned (.func (.func 93) #[] #[.pointer (some ⟨fb, 0, none⟩)]) ∧ ∃ t, St S W w' (blkT fb #[.func f #[] #[]] t :: M) := by
  have hmf : ∀ (fn : Fn) (first cap : Array Value) (w : World), (Instr.makeFunc fn first cap).run Tryz.prog w = .ok (.func fn first cap) w := fun _ _ _ _ => rfl
  go_enter Tryz.func61, Tryz.ntmps61
  go_wp2
  go_ret
  exact ⟨_, rfl, _, h.alloc _ _⟩
set_option maxRecDepth 20000 in
set_option maxHeartbeats 2000000 in
theorem streams_st (h : St S W w M) : Calls Tryz.prog 35 #[] w fun e w' => ∃ g b1 b2 b3 t1 t2 t3, e = .returned (.slice (some ⟨g, 0, none⟩) 4 4) ∧
    St S W w' (blkT g (strA b1 b2 b3) 73 :: blkT b3 #[fnV 70] t3 :: blkT b2 #[fnV 65] t2 :: blkT b1 #[fnV 62] t1 :: M) := by
  have H1 := Lib.hid (named_st h (.func 62))
  go_enter Tryz.func35, Tryz.ntmps35
  go_wp2_with fail
  refine H1.out.mono ?_
  rintro _ w1 ⟨b1, rfl, t1, h1⟩
  have H2 := Lib.hid (named_st h1 (.func 65))
  go_wp2_with fail
  refine H2.out.mono ?_
  rintro _ w2 ⟨b2, rfl, t2, h2⟩
  have H3 := Lib.hid (named_st h2 (.func 70))
  go_wp2_with fail
  refine H3.out.mono ?_
  rintro _ w3 ⟨b3, rfl, t3, h3⟩
  have h4 := Lib.hid (h3.alloc (strA b1 b2 b3) 73)
  go_wp2_with fail
  go_ret
  exact ⟨_, b1, b2, b3, t1, t2, t3, rfl, h4.out⟩
end
end Go.Proofs.YtjdglpngcdcneaaGreat
