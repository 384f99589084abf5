/- Layer 7's laws: HuffBack. -/
import Derived.Test.YtclhmlgbhlmekaaHh
namespace Go.Proofs.Ytclhmlgbhlmekaa
open Go.RowKit
set_option linter.unusedVariables false
set_option linter.unusedSimpArgs false
set_option linter.unusedSectionVars false
set_option maxRecDepth 20000 in
set_option maxHeartbeats 2000000 in
theorem huffBack_walk (s : ByteArray) (hps : s.size ≤ 140737488351232) (w : World) :
    Calls Try.prog 6 #[.string s] w fun e w' => e = .returned (.bool true) ∧ Ext w w' := by
  have HA := Lib.hid hawake_any
  by_cases h0 : s.size ≤ 2000
  · have hn : ¬ (2000 : Int) < (s.size : Int) := by omega
    have esz : s.data.toList.length = s.size := by simp
    have h56 := lenT_text (l := s.data.toList) (by omega)
    have hpl := packP_len s.data.toList (by omega)
    rw [esz] at hpl
    have HP := Lib.hid (fun w => pack_any s (by omega) (fun i => by have := h56 i; omega) w)
    obtain ⟨ps, hp⟩ : ∃ ps : ByteArray, ps = ⟨(packP s.data.toList).toArray⟩ := ⟨_, rfl⟩
    have hpz : ps.size = (packP s.data.toList).length := by rw [hp]; rfl
    have hpd : ps.data.toList = packP s.data.toList := by rw [hp]
    rw [← hp] at HP
    have HU := Lib.hid (fun w => unpack_any ps (by omega) s.size (by omega) w)
    rw [hpd, unpackP_pack _ (by omega) _ (by rw [esz]; exact Int.le_refl _)] at HU
    have e : (⟨s.data.toList.toArray⟩ : ByteArray) = s := by simp
    rw [e] at HU
    clear hp hpd hpz hpl h56 e esz
    go_enter Try.func6, Try.ntmps6
    go_wp2_with fail
    refine (HA.out w).mono ?_
    rintro _ w1 ⟨rfl, x1⟩
    go_wp2_with fail
    refine (HP.out w1).mono ?_
    rintro _ w2 ⟨rfl, x2⟩
    go_wp2_with fail
    refine (HU.out w2).mono ?_
    rintro _ w3 ⟨rfl, x3⟩
    go_wp2_with fail
    go_ret
    exact ⟨rfl, (x1.trans x2).trans x3⟩
  · have hn : (2000 : Int) < (s.size : Int) := by omega
    go_enter Try.func6, Try.ntmps6
    go_wp2_with fail
    refine (HA.out w).mono ?_
    rintro _ w1 ⟨rfl, x1⟩
    go_wp2_with fail
    refine (HA.out w1).mono ?_
    rintro _ w2 ⟨rfl, x2⟩
    go_wp2_with fail
    go_ret
    exact ⟨rfl, x1.trans x2⟩
end Go.Proofs.Ytclhmlgbhlmekaa
