/- Layer 7's laws: HuffPacks. -/
import Derived.Test.YtclhmlgbhlmekaaHh
import Derived.Test.YtclhmlgbhlmekaaHRefK
import Derived.Test.YtclhmlgbhlmekaaHEqArr
namespace Go.Proofs.Ytclhmlgbhlmekaa
open Go.RowKit
set_option linter.unusedVariables false
set_option linter.unusedSimpArgs false
set_option linter.unusedSectionVars false
set_option maxRecDepth 20000 in
set_option maxHeartbeats 2000000 in
theorem huffPacks_walk (s : ByteArray) (hps : s.size ≤ 140737488351232) (w : World) :
    Calls Try.prog 5 #[.string s] w fun e w' => e = .returned (.bool true) ∧ Ext w w' := by
  have HA := Lib.hid hawake_any
  by_cases h0 : s.size ≤ 600
  · have hn : ¬ (600 : Int) < (s.size : Int) := by omega
    have esz : s.data.toList.length = s.size := by simp
    have h56 := lenT_text (l := s.data.toList) (by omega)
    have HP := Lib.hid (fun w => pack_any s (by omega) (fun i => by have := h56 i; omega) w)
    have HR := Lib.hid (fun w => rpack_any s (by omega) w)
    have HC := Lib.hid (fun w => count_any s (by omega) w)
    have HD := Lib.hid (fun w => rcount_any s (by omega) w)
    generalize (⟨(packP s.data.toList).toArray⟩ : ByteArray) = ps at HP HR
    generalize cntF s.data.toList = f at HC HD
    have heq := fun w => eql_arr64 f w
    clear h56 esz
    go_enter Try.func5, Try.ntmps5
    go_wp2_with fail
    refine (HA.out w).mono ?_
    rintro _ w1 ⟨rfl, x1⟩
    go_wp2_with fail
    refine (HC.out w1).mono ?_
    rintro _ w2 ⟨rfl, x2⟩
    go_wp2_with fail
    refine (HD.out w2).mono ?_
    rintro _ w3 ⟨rfl, x3⟩
    go_wp2_with fail
    refine (HP.out w3).mono ?_
    rintro _ w4 ⟨rfl, x4⟩
    go_wp2_with fail
    refine (HR.out w4).mono ?_
    rintro _ w5 ⟨rfl, x5⟩
    go_wp2_with fail
    go_ret
    exact ⟨rfl, (((x1.trans x2).trans x3).trans x4).trans x5⟩
  · have hn : (600 : Int) < (s.size : Int) := by omega
    go_enter Try.func5, Try.ntmps5
    go_wp2_with fail
    refine (HA.out w).mono ?_
    rintro _ w1 ⟨rfl, x1⟩
    go_wp2_with fail
    refine (HA.out w1).mono ?_
    rintro _ w2 ⟨rfl, x2⟩
    go_wp2_with fail
    go_ret
    exact ⟨rfl, x1.trans x2⟩
end Go.Proofs.Ytclhmlgbhlmekaa
