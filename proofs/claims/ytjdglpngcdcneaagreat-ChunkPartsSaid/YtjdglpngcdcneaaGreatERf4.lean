/- Layer 21: the document's Check and Same. -/
import Derived.Test.YtjdglpngcdcneaaGreatERf3
namespace Go.Proofs.YtjdglpngcdcneaaGreat
open Go.RowKit Go.WideShapes
set_option linter.unusedVariables false
set_option linter.unusedSimpArgs false
set_option linter.unusedSectionVars false
set_option maxRecDepth 20000 in
set_option maxHeartbeats 4000000 in
theorem rcheck_any (A : Option Addr) (ca n : Nat) (l : List Ev) (w : World) (hn : l.length = n) (hl : n ≤ 1000000) (hr : ERow w A l) :
    Calls Tryz.prog 9 #[.slice A n ca] w fun e w' => e = .returned (.tuple #[.int .i64 (checkE l).1, .int .i64 (checkE l).2]) ∧ Ext w w' := by
  obtain ⟨R, hR⟩ : ∃ R, checkE l = R := ⟨_, rfl⟩
  rw [hR]
  by_cases h0 : 65536 < n
  · have h0i : (65536 : Int) < (n : Int) := by omega
    obtain rfl : R = (0, 4) := by rw [← hR]; unfold checkE; rw [if_pos (by omega)]
    clear hR
    go_enter Tryz.func9, Tryz.ntmps9
    go_wp2
    go_ret2
    exact ⟨rfl, Mut.refl noB w⟩
  · have h0i : ¬ (65536 : Int) < (n : Int) := by omega
    have HR : Hid ((match badE l with | some i => (i, 3) | none => (0, 0)) = R) := Lib.hid (by rw [← hR]; unfold checkE; rw [if_neg (by omega)]; cases badE l <;> rfl)
    have HS := Lib.hid (badE_some l)
    have HN := Lib.hid (badE_none l)
    have HL := Lib.hid hn
    clear hR
    go_enter Tryz.func9, Tryz.ntmps9
    go_wp2_with fail
    go_loopw [4] (fun v4 wr => ∃ i : Nat, v4 = .int .i64 i ∧ i ≤ n ∧ Hid (∀ j, j < i → rightE (l.getD j default)) ∧ Ext w wr) (fun v4 _ => n - (intOf v4).toNat)
    case atStart => exact ⟨0, rfl, by omega, Lib.hid (fun j hj => absurd hj (by omega)), Mut.refl noB w⟩
    case round =>
      obtain ⟨i, rfl, hi, HA, x⟩ := hrel
      by_cases hlt : i < n
      · have hlti : (i : Int) < (n : Int) := by omega
        have hl0 : (0 : Int) ≤ (i : Int) := by omega
        obtain ⟨b, off, rfl, c0, c1, c2, c3, c4⟩ := (hr.ext x) i (by rw [HL.out]; exact hlt)
        have HS2 : Hid (¬ rightE (l.getD i default) → badE l = some i) := Lib.hid (fun c => HS.out i (by rw [HL.out]; exact hlt) HA.out c)
        have HA2 : Hid (rightE (l.getD i default) → ∀ j, j < i + 1 → rightE (l.getD j default)) := Lib.hid (fun c j hj => by
          by_cases e : j = i
          · rw [e]; exact c
          · exact HA.out j (by omega))
        have HRt := Lib.hid (fun w => rright_any w (l.getD i default))
        generalize l.getD i default = ev at *
        obtain ⟨th, kd, rg, tk, vl⟩ := ev
        dsimp only [evV] at c0 c1 c2 c3 c4 HRt
        go_wp2_with fail
        refine (HRt.out _).mono ?_
        rintro _ w6 ⟨rfl, x6⟩
        by_cases hrt : rightE ⟨th, kd, rg, tk, vl⟩
        · rw [decide_eq_true hrt]
          have HA3 := Lib.hid (HA2.out hrt)
          clear HA2 HS2 hrt HRt HA
          go_wp2_with fail
          exact ⟨⟨i + 1, by go_num, by omega, HA3, x.trans x6⟩, by simp only [intOf]; omega⟩
        · rw [decide_eq_false hrt]
          have hR := HR.out
          rw [HS2.out hrt] at hR
          obtain rfl : R = (i, 3) := hR.symm
          clear HA2 HS2 hrt HRt hR HR
          go_wp2_with fail
          go_ret2
          exact ⟨rfl, x.trans x6⟩
      · obtain rfl : i = n := by omega
        have hlti : ¬ (i : Int) < (i : Int) := by omega
        have hb := HN.out (fun j hj => HA.out j (by have := HL.out; omega))
        have hR := HR.out
        rw [hb] at hR
        obtain rfl : R = (0, 0) := hR.symm
        clear hR hb
        go_wp2_with fail
        go_ret2
        exact ⟨rfl, x⟩
theorem lists_eq (l m : List Ev) (h : l.length = m.length) (hj : ∀ j, j < l.length → l.getD j default = m.getD j default) : l = m := by
  apply List.ext_getElem h
  intro i h1 h2
  have := hj i h1
  rw [List.getD_eq_getElem?_getD, List.getD_eq_getElem?_getD, List.getElem?_eq_getElem h1, List.getElem?_eq_getElem h2] at this
  exact this
set_option maxRecDepth 20000 in
set_option maxHeartbeats 4000000 in
theorem rsame_any (A B : Option Addr) (ca cb n m : Nat) (l k : List Ev) (w : World) (hn : l.length = n) (hm : k.length = m) (hl : n ≤ 1000000) (hr : ERow w A l) (hq : ERow w B k) :
    Calls Tryz.prog 15 #[.slice A n ca, .slice B m cb] w fun e w' => e = .returned (.bool (decide (l = k))) ∧ Ext w w' := by
  by_cases hnm : n = m
  · subst hnm
    have hLE := lists_eq l k (by omega)
    obtain ⟨d, hd⟩ : ∃ d, decide (l = k) = d := ⟨_, rfl⟩
    rw [hd]
    have HD := Lib.hid hd
    have HLE := Lib.hid hLE
    have HL := Lib.hid hn
    have HM := Lib.hid hm
    clear hd hLE
    go_enter Tryz.func15, Tryz.ntmps15
    go_wp2_with fail
    go_loopw [5] (fun v5 wr => ∃ i : Nat, v5 = .int .i64 i ∧ i ≤ n ∧ Hid (∀ j, j < i → l.getD j default = k.getD j default) ∧ Ext w wr) (fun v5 _ => n - (intOf v5).toNat)
    case atStart => exact ⟨0, rfl, by omega, Lib.hid (fun j hj => absurd hj (by omega)), Mut.refl noB w⟩
    case round =>
      obtain ⟨i, rfl, hi, HA, x⟩ := hrel
      by_cases hlt : i < n
      · have hlti : (i : Int) < (n : Int) := by omega
        have hl0 : (0 : Int) ≤ (i : Int) := by omega
        obtain ⟨b, off, rfl, c0, c1, c2, c3, c4⟩ := (hr.ext x) i (by rw [HL.out]; exact hlt)
        obtain ⟨b2, off2, rfl, d0, d1, d2, d3, d4⟩ := (hq.ext x) i (by rw [HM.out]; exact hlt)
        have HA2 : Hid (l.getD i default = k.getD i default → ∀ j, j < i + 1 → l.getD j default = k.getD j default) := Lib.hid (fun c j hj => by
          by_cases e : j = i
          · rw [e]; exact c
          · exact HA.out j (by omega))
        have HNE : Hid (l.getD i default ≠ k.getD i default → d = false) := Lib.hid (fun c => by rw [← HD.out]; exact decide_eq_false (fun e => c (by rw [e])))
        have hne := fun w => ev_neq (l.getD i default) (k.getD i default) w
        generalize l.getD i default = ev at *
        generalize k.getD i default = ew at *
        obtain ⟨q, hq0⟩ : ∃ q, decide (ev = ew) = q := ⟨_, rfl⟩
        rw [hq0] at hne
        have HQ := Lib.hid hq0
        clear hq0
        obtain ⟨th, kd, rg, tk, vl⟩ := ev
        obtain ⟨th2, kd2, rg2, tk2, vl2⟩ := ew
        dsimp only [evV] at c0 c1 c2 c3 c4 d0 d1 d2 d3 d4 hne
        have k0 := fun a : After wr => (After.ext a).cell c0
        have k1 := fun a : After wr => (After.ext a).cell c1
        have k2 := fun a : After wr => (After.ext a).cell c2
        have k3 := fun a : After wr => (After.ext a).cell c3
        have k4 := fun a : After wr => (After.ext a).cell c4
        have j0 := fun a : After wr => (After.ext a).cell d0
        have j1 := fun a : After wr => (After.ext a).cell d1
        have j2 := fun a : After wr => (After.ext a).cell d2
        have j3 := fun a : After wr => (After.ext a).cell d3
        have j4 := fun a : After wr => (After.ext a).cell d4
        clear c0 c1 c2 c3 c4 d0 d1 d2 d3 d4
        go_wp2_with fail
        (refine wp_region_after (by kernel_rfl) (by kernel_rfl) ?_; (repeat (first | go_big_quiet_skip | (go_big_quiet_want; first | (fail; simp only [Act.put, List.setIfInBounds_toArray, List.set_cons_succ, List.set_cons_zero]; go_big_quiet_on) | (go_big_quiet_op; first | go_big_quiet_on | (apply Exists.intro; refine ⟨fun _ => ?_, ?_⟩; (· (fail)); go_big_quiet_on))))); refine wpQuiet_nil ?_; rintro _ ⟨y, rfl⟩)
        clear k0 k1 k2 k3 k4 j0 j1 j2 j3 j4 hne
        cases q
        · have e := HNE.out (of_decide_eq_false HQ.out)
          subst e
          go_wp2_with fail
          go_ret
          exact ⟨rfl, x.trans y.ext⟩
        · have HA3 := Lib.hid (HA2.out (of_decide_eq_true HQ.out))
          clear HA2 HA HNE HQ
          go_wp2_with fail
          exact ⟨⟨i + 1, by go_num, by omega, HA3, x.trans y.ext⟩, by simp only [intOf]; omega⟩
      · obtain rfl : i = n := by omega
        have hlti : ¬ (i : Int) < (i : Int) := by omega
        obtain rfl : d = true := by rw [← HD.out]; exact decide_eq_true (HLE.out (fun j hj => HA.out j (by have := HL.out; omega)))
        go_wp2_with fail
        go_ret
        exact ⟨rfl, x⟩
  · have e : decide (l = k) = false := decide_eq_false (fun e => hnm (by rw [← hn, ← hm, e]))
    rw [e]
    have hne : ((n : Int) != (m : Int)) = true := by rw [bne_iff_ne]; omega
    clear hn hm hr hq hl
    go_enter Tryz.func15, Tryz.ntmps15
    go_wp2_with fail
    go_ret
    exact ⟨rfl, Mut.refl noB w⟩
end Go.Proofs.YtjdglpngcdcneaaGreat
