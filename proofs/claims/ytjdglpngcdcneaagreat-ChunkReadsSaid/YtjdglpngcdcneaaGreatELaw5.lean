/- Layer 21's laws: ChunkReads. -/
import Derived.Test.YtjdglpngcdcneaaGreatERs3
namespace Go.Proofs.YtjdglpngcdcneaaGreat
open Go.RowKit Go.WideShapes
set_option linter.unusedVariables false
set_option linter.unusedSimpArgs false
set_option linter.unusedSectionVars false
theorem rdE_facts (s : List UInt8) (most : Int) (l : List Ev) (h : rdE s most = (l, 0)) : checkE l = (0, 0) ∧ printE l = s := by
  unfold rdE at h
  split at h
  · cases h
  · split at h
    · cases h
    · split at h
      · cases h
      · split at h
        · rename_i hc
          cases h
          exact hc
        · cases h
theorem rdE_code (s : List UInt8) (most : Int) (c : Nat) (h : rdE s most = ([], c)) (hc : c ≠ 0) : c = if most < 0 ∨ 65536 < most then 1 else 3 := by
  unfold rdE at h
  split at h
  · rename_i h1
    rw [if_pos h1]
    injection h with _ h; exact h.symm
  · rename_i h1
    rw [if_neg h1]
    split at h
    · injection h with _ h; exact h.symm
    · split at h
      · injection h with _ h; exact h.symm
      · split at h
        · injection h with _ h; exact absurd h.symm hc
        · injection h with _ h; exact h.symm
set_option maxRecDepth 20000 in
set_option maxHeartbeats 8000000 in
theorem chunkReads_walk (s : ByteArray) (most : Int) (hps : s.size ≤ 140737488351232) (hmo : -9223372036854775808 ≤ most ∧ most < 9223372036854775808) (w : World) :
    Calls Tryz.prog 4 #[.string s, .int .i64 most] w fun e w' => e = .returned (.bool true) ∧ Ext w w' := by
  have HA := Lib.hid awake_any
  by_cases h0 : s.size ≤ 1500
  rotate_left
  · have h0i : (1500 : Int) < (s.size : Int) := by omega
    go_enter Tryz.func4, Tryz.ntmps4
    go_wp2_with fail
    refine (HA.out w).mono ?_
    rintro _ w1 ⟨rfl, x1⟩
    go_wp2_with fail
    refine (HA.out w1).mono ?_
    rintro _ w2 ⟨rfl, x2⟩
    go_wp2_with fail
    go_ret
    exact ⟨rfl, x1.trans x2⟩
  have h0i : ¬ (1500 : Int) < (s.size : Int) := by omega
  have HR := Lib.hid (fun w => read_any s (by omega) most hmo w)
  go_enter Tryz.func4, Tryz.ntmps4
  go_wp2_with fail
  refine (HA.out w).mono ?_
  rintro _ w1 ⟨rfl, x1⟩
  go_wp2_with fail
  refine (HR.out w1).mono ?_
  rintro _ w2 (⟨l, n, x0, e1, e2, e3, e4, e5, rfl, h2⟩ | ⟨c, e1, e2, rfl, x2⟩)
  · have hf := rdE_facts _ _ _ e1
    have hv : ∀ i, i < l.length → (l.getD i default).vl < 18446744073709551616 := fun i _ => e5 i
    obtain ⟨hAl, _⟩ := allE_of l hf.1 hv
    have hr := Own.erow h2.own e2
    have x := Lib.hid (x1.trans h2.ends)
    obtain ⟨m, rfl⟩ : ∃ m : Nat, most = m := ⟨most.toNat, by omega⟩
    by_cases hm6 : 65536 < (m : Int)
    · exfalso
      unfold rdE at e1
      rw [if_pos (.inr hm6)] at e1
      cases e1
    have hle : (n : Int) ≤ (m : Int) := e3
    have HP := Lib.hid (fun w3 (x : Ext w2 w3) => print_ok (some ⟨x0, 0, none⟩) n n l w3 e2 (hr.ext x) hf.1 hv)
    have HC := Lib.hid (fun w3 (x : Ext w2 w3) => rcheck_any (some ⟨x0, 0, none⟩) n n l w3 e2 (by omega) (hr.ext x))
    rw [hf.1] at HC
    have hst : (⟨(printE l).toArray⟩ : ByteArray) = s := by rw [hf.2]
    rw [hst] at HP
    by_cases hn : n ≤ 120
    · have hni : ¬ (120 : Int) < (n : Int) := by omega
      have HRP := Lib.hid (fun w3 (x : Ext w2 w3) => rprn_any (some ⟨x0, 0, none⟩) n n l w3 e2 hn (hr.ext x) hAl)
      rw [hst] at HRP
      clear hst hAl hf hv hr e1 e2 e3 e4 e5 h2 x1 HR
      go_wp2_with fail
      refine (HP.out w2 (Mut.refl _ _)).mono ?_
      rintro _ w3 ⟨rfl, x3⟩
      go_wp2_with fail
      refine (HC.out w3 x3).mono ?_
      rintro _ w4 ⟨rfl, x4⟩
      replace x4 := x3.trans x4
      clear x3
      go_wp2_with fail
      refine (HRP.out w4 x4).mono ?_
      rintro _ w5 ⟨rfl, x5⟩
      go_wp2_with fail
      go_ret
      exact ⟨rfl, x.out.trans (x4.trans x5)⟩
    · have hni : (120 : Int) < (n : Int) := by omega
      clear hst hAl hf hv hr e1 e2 e3 e4 e5 h2 x1 HR
      go_wp2_with fail
      refine (HP.out w2 (Mut.refl _ _)).mono ?_
      rintro _ w3 ⟨rfl, x3⟩
      go_wp2_with fail
      refine (HC.out w3 x3).mono ?_
      rintro _ w4 ⟨rfl, x4⟩
      go_wp2_with fail
      go_ret
      exact ⟨rfl, x.out.trans (x3.trans x4)⟩
  · have hcd := rdE_code _ _ _ e1 (by omega)
    by_cases hmn : most < 0
    · rw [if_pos (.inl hmn)] at hcd
      subst hcd
      clear e1 e2 HR
      go_wp2_with fail
      go_ret
      exact ⟨rfl, x1.trans x2⟩
    · by_cases hm6 : 65536 < most
      · rw [if_pos (.inr hm6)] at hcd
        subst hcd
        clear e1 e2 HR
        go_wp2_with fail
        go_ret
        exact ⟨rfl, x1.trans x2⟩
      · rw [if_neg (by omega)] at hcd
        subst hcd
        clear e1 e2 HR
        go_wp2_with fail
        go_ret
        exact ⟨rfl, x1.trans x2⟩
end Go.Proofs.YtjdglpngcdcneaaGreat
