/- Layer 4: the document's runs unpacked. -/
import Derived.Test.YtpdhfmkaeemadaaRUn
namespace Go.Proofs.Ytpdhfmkaeemadaa
open Go.RowKit Go.WideShapes
set_option linter.unusedVariables false
set_option linter.unusedSimpArgs false
section
variable {S : Nat → Prop} {W w : World} {M : List Thing}
set_option maxRecDepth 20000 in
set_option maxHeartbeats 8000000 in
theorem runpack_st (h : St S W w M) (A : Option Addr) (ca n : Nat) (p : List Rn) (hp : p.length = n) (hn : n ≤ 1000000) (ha : AllR p) (hr : ∀ w', St S W w' M → RRow w' A p) (most : Int) (hm : -9223372036854775808 ≤ most ∧ most ≤ 1000000) :
    Calls Try.prog 15 #[.slice A n ca, .int .i64 most] w fun e w' => ∃ v, e = .returned (.tuple #[v, .int .i64 (unI p most).2]) ∧ St S W w' (nlT v (unI p most).1 :: M) := by
  by_cases h0 : most < 0
  · rw [unI, if_pos h0]
    clear hr
    go_enter Try.func15, Try.ntmps15
    go_wp2_with fail
    go_ret2
    exact ⟨_, rfl, h.nilOwn _ _⟩
  · obtain ⟨most, rfl⟩ : ∃ k : Nat, most = k := ⟨most.toNat, by omega⟩
    have HR0 := Lib.hid (show unI p most = un most p [] by rw [unI, if_neg h0, Int.toNat_natCast])
    generalize unI p most = R at HR0 ⊢
    have ha2 : ∀ i, i < n → _ := fun i hi => ha i (by omega)
    have HR2 := Lib.hid (fun w' (hh : St S W w' M) i (hi : i < n) => hr w' hh i (by omega))
    have HDr : Hid (∀ i, i < n → p.drop i = p.getD i (0, 0) :: p.drop (i + 1)) := Lib.hid (fun i hi => drop_cons p i (by omega))
    have HDe : Hid (p.drop n = []) := Lib.hid (by rw [← hp]; simp)
    clear ha hr hp
    have h2 := h.nilOwn 34 1
    clear h
    go_enter Try.func15, Try.ntmps15
    go_wp2_with fail
    go_loopw [6, 7] (fun vl vi wr => ∃ (i k : Nat) (v : Value) (acc : List Nat), vl = v ∧ vi = .int .i64 i ∧ i ≤ n ∧ Hid (acc.length = k) ∧ k ≤ most ∧ Hid ((i = 0 ∧ acc = []) ∨ (0 < i ∧ acc.getLast? = some (p.getD (i - 1) (0, 0)).1)) ∧ Hid (R = un most (p.drop i) acc) ∧ St S W wr (mlT v k acc :: M)) (fun _ vi _ => n - (intOf vi).toNat)
    case atStart => exact ⟨0, 0, _, [], rfl, rfl, by omega, Lib.hid rfl, by omega, Lib.hid (.inl ⟨rfl, rfl⟩), HR0, h2⟩
    case round =>
      clear h2 HR0
      obtain ⟨i, k, v, acc, rfl, rfl, hi, HL, hk, HLA, HR, h⟩ := hrel
      obtain ⟨A3, c3, rfl⟩ := h.own.form
      by_cases hlt : i < n
      · obtain ⟨b, off, rfl, hc0, hc1⟩ := HR2.out _ h.drop i hlt
        obtain ⟨hb0, hb1⟩ := ha2 i hlt
        have hE := HR.out
        rw [HDr.out i hlt, un] at hE
        obtain ⟨⟨xv, xc⟩, hv⟩ : ∃ r, p.getD i (0, 0) = r := ⟨_, rfl⟩
        have HV := Lib.hid hv
        rw [hv] at hc0 hc1 hb0 hb1 hE
        simp only at hc0 hc1 hb0 hb1 hE
        clear HR hv
        have hli : (i : Int) < (n : Int) := by omega
        have hl0 : (0 : Int) ≤ (i : Int) := by omega
        have ka0 := fun a : After wr => (After.ext a).cell hc0
        have ka1 := fun a : After wr => (After.ext a).cell hc1
        clear hc0 hc1
        by_cases hz : xc = 0
        · rw [if_pos (Or.inl hz)] at hE
          have HE := Lib.hid hE
          have hzz : ((xc : Int) == 0) = true := by rw [hz]; rfl
          clear hE hz ha2
          go_wp2_with fail
          (refine wp_region_after (by kernel_rfl) (by kernel_rfl) ?_; (repeat (first | go_big_quiet_skip | (go_big_quiet_want; first | (fail; simp only [Act.put, List.setIfInBounds_toArray, List.set_cons_succ, List.set_cons_zero]; go_big_quiet_on) | (go_big_quiet_op; first | go_big_quiet_on | (apply Exists.intro; refine ⟨fun _ => ?_, ?_⟩; (· (fail)); go_big_quiet_on))))); refine wpQuiet_nil ?_; rintro _ ⟨y, rfl⟩)
          have h5 := h.ext y.ext
          go_wp2_with fail
          go_ret2
          rw [HE.out]
          exact ⟨_, rfl, h5.drop.nilOwn _ _⟩
        · have hzz : ((xc : Int) == 0) = false := by rw [beq_eq_false_iff_ne]; omega
          cases i with
          | zero =>
            have hacc : acc = [] := by
              rcases HLA.out with ⟨_, h1⟩ | ⟨h1, _⟩
              · exact h1
              · omega
            have hlast : ¬ acc.getLast? = some xv := by rw [hacc]; simp
            rw [if_neg (by rintro (h4 | h4); exact hz h4; exact hlast h4), HL.out] at hE
            clear hacc
            have hk0 : ¬ (0 : Int) < ((0 : Nat) : Int) := by omega
            simp only [Nat.zero_mul, Nat.add_zero] at ka0 ka1
            clear ha2
            have HLs := Lib.hid hlast
            go_wp2_with fail
            (refine wp_region_after (by kernel_rfl) (by kernel_rfl) ?_; (repeat (first | go_big_quiet_skip | (go_big_quiet_want; first | (fail; simp only [Act.put, List.setIfInBounds_toArray, List.set_cons_succ, List.set_cons_zero]; go_big_quiet_on) | (go_big_quiet_op; first | go_big_quiet_on | (apply Exists.intro; refine ⟨fun _ => ?_, ?_⟩; (· (fail)); go_big_quiet_on))))); refine wpQuiet_nil ?_; rintro _ ⟨y, rfl⟩)
            have h5 := h.ext y.ext
            obtain ⟨b5, off5, e5, hd0, hd1⟩ := HR2.out _ h5.drop 0 hlt
            cases e5
            rw [HV.out] at hd0 hd1
            simp only at hd0 hd1
            try simp only [Nat.zero_mul, Nat.add_zero] at hd0 hd1
            clear ka0 ka1
            by_cases hlong : most < k + xc
            · rw [if_pos hlong] at hE
              have HE := Lib.hid hE
              have hg : (most : Int) - (k : Nat) < xc := by omega
              clear hE
              go_wp2_with fail
              go_ret2
              rw [HE.out]
              exact ⟨_, rfl, h5.drop.nilOwn _ _⟩
            · rw [if_neg hlong] at hE
              have HE := Lib.hid hE
              have hg : ¬ (most : Int) - (k : Nat) < xc := by omega
              clear hE h
              go_wp2_with fail
              clear hd0 hd1
              go_loopw [6, 8] (fun vl vj wr => ∃ (j kk : Nat) (v : Value), vl = v ∧ vj = .int .u64 j ∧ j ≤ xc ∧ Hid (kk = k + j) ∧ kk ≤ most ∧ St S W wr (mlT v kk (acc ++ List.replicate j xv) :: M)) (fun _ vj _ => xc - (intOf vj).toNat)
              case atStart => exact ⟨0, k, _, rfl, rfl, by omega, Lib.hid (by omega), by omega, by simpa using h5⟩
              case round =>
                clear h5
                obtain ⟨j, kk, v, rfl, rfl, hj, HKJ, hkm, h⟩ := hrel
                obtain ⟨A4, c4, rfl⟩ := h.own.form
                obtain ⟨b5, off5, e5, hd0, hd1⟩ := HR2.out _ h.drop 0 hlt
                cases e5
                rw [HV.out] at hd0 hd1
                simp only at hd0 hd1
                try simp only [Nat.zero_mul, Nat.add_zero] at hd0 hd1
                by_cases hjx : j < xc
                · go_wp2_with (at_builtin; refine wpList_push rfl _ _ _ rfl 34 (.int .u64 0) 1 8 Try.underlying22 u64_info rfl (by decide) h rfl rfl rfl (numsV_one [xv]) (by unfold maxLen; omega) (by omega) ?_; intro A' c' w6 h6)
                  have h7 : St S W w6 (mlT (.slice A' (kk + 1) c') (kk + 1) (acc ++ List.replicate (j + 1) xv) :: M) := by
                    have e : numsV (acc ++ List.replicate (j + 1) xv) = numsV (acc ++ List.replicate j xv) ++ #[Value.int .u64 (xv : Nat)].toList := by
                      rw [List.replicate_succ', ← List.append_assoc, numsV_append]; rfl
                    unfold mlT
                    rw [e]; exact h6
                  have hkm2 : kk + 1 ≤ most := by have := HKJ.out; omega
                  have hkj2 : Hid (kk + 1 = k + (j + 1)) := Lib.hid (by have := HKJ.out; omega)
                  go_roundw
                  case rel => first | exact ⟨j + 1, kk + 1, _, rfl, by go_num, by omega, hkj2, hkm2, h7⟩ | ((repeat apply Exists.intro); exact ⟨⟨j + 1, kk + 1, _, rfl, by go_num, by omega, hkj2, hkm2, h7⟩, rfl⟩)
                  case measure => simp [intOf]; omega
                · obtain rfl : j = xc := by omega
                  have HL2 : Hid ((acc ++ List.replicate j xv).length = kk) := Lib.hid (by rw [List.length_append, List.length_replicate, HL.out, HKJ.out])
                  have HLA : Hid ((0 + 1 = 0 ∧ acc ++ List.replicate j xv = []) ∨ (0 < 0 + 1 ∧ (acc ++ List.replicate j xv).getLast? = some (p.getD (0 + 1 - 1) (0, 0)).1)) := Lib.hid (.inr (And.intro (by omega) (by
                    obtain ⟨d, hd⟩ : ∃ d, j = d + 1 := ⟨j - 1, by omega⟩
                    rw [hd, List.replicate_succ', ← List.append_assoc, List.getLast?_concat, Nat.add_sub_cancel, HV.out])))
                  go_wp2_with fail
                  go_roundw
                  case rel => first | exact ⟨0 + 1, kk, _, _, rfl, by go_num, by omega, HL2, hkm, HLA, HE, h⟩ | ((repeat apply Exists.intro); exact ⟨⟨0 + 1, kk, _, _, rfl, by go_num, by omega, HL2, hkm, HLA, HE, h⟩, rfl⟩)
                  case measure => first | (simp [intOf]; done) | (simp [intOf]; omega)
          | succ jj =>
            have hla : acc.getLast? = some (p.getD jj (0, 0)).1 := by
              rcases HLA.out with ⟨h1, _⟩ | ⟨_, h1⟩
              · omega
              · exact h1
            obtain ⟨b6, off6, e6, hy0, _⟩ := HR2.out _ h.drop jj (by omega)
            cases e6
            generalize (p.getD jj (0, 0)).1 = u at hla hy0
            have ka2 := fun a : After wr => (After.ext a).cell hy0
            have hj1 : (jj : Int) + 1 - 1 = (jj : Int) := by omega
            have hjn : (jj : Int) < (n : Int) := by omega
            have hj0 : (0 : Int) ≤ (jj : Int) := by omega
            have hj00 : (0 : Int) < (jj : Int) + 1 := by omega
            clear hy0
            by_cases hux : u = xv
            · subst hux
              rw [if_pos (Or.inr hla)] at hE
              have HE := Lib.hid hE
              clear hE hz ha2 hla
              go_wp2_with fail
              (refine wp_region_after (by kernel_rfl) (by kernel_rfl) ?_; (repeat (first | go_big_quiet_skip | (go_big_quiet_want; first | (fail; simp only [Act.put, List.setIfInBounds_toArray, List.set_cons_succ, List.set_cons_zero]; go_big_quiet_on) | (go_big_quiet_op; first | go_big_quiet_on | (apply Exists.intro; refine ⟨fun _ => ?_, ?_⟩; (· (fail)); go_big_quiet_on))))); refine wpQuiet_nil ?_; rintro _ ⟨y, rfl⟩)
              have h5 := h.ext y.ext
              go_wp2_with fail
              go_ret2
              rw [HE.out]
              exact ⟨_, rfl, h5.drop.nilOwn _ _⟩
            · have hne : ((xv : Int) == (u : Int)) = false := by rw [beq_eq_false_iff_ne]; omega
              have hlast : ¬ acc.getLast? = some xv := by rw [hla]; intro e; cases e; exact hux rfl
              rw [if_neg (by rintro (h4 | h4); exact hz h4; exact hlast h4), HL.out] at hE
              clear ha2 hla
              have HLs := Lib.hid hlast
              go_wp2_with fail
              (refine wp_region_after (by kernel_rfl) (by kernel_rfl) ?_; (repeat (first | go_big_quiet_skip | (go_big_quiet_want; first | (fail; simp only [Act.put, List.setIfInBounds_toArray, List.set_cons_succ, List.set_cons_zero]; go_big_quiet_on) | (go_big_quiet_op; first | go_big_quiet_on | (apply Exists.intro; refine ⟨fun _ => ?_, ?_⟩; (· (fail)); go_big_quiet_on))))); refine wpQuiet_nil ?_; rintro _ ⟨y, rfl⟩)
              have h5 := h.ext y.ext
              obtain ⟨b5, off5, e5, hd0, hd1⟩ := HR2.out _ h5.drop (jj + 1) hlt
              cases e5
              rw [HV.out] at hd0 hd1
              simp only at hd0 hd1
              try simp only [Nat.zero_mul, Nat.add_zero] at hd0 hd1
              clear ka0 ka1
              by_cases hlong : most < k + xc
              · rw [if_pos hlong] at hE
                have HE := Lib.hid hE
                have hg : (most : Int) - (k : Nat) < xc := by omega
                clear hE
                go_wp2_with fail
                go_ret2
                rw [HE.out]
                exact ⟨_, rfl, h5.drop.nilOwn _ _⟩
              · rw [if_neg hlong] at hE
                have HE := Lib.hid hE
                have hg : ¬ (most : Int) - (k : Nat) < xc := by omega
                clear hE h
                go_wp2_with fail
                clear hd0 hd1
                go_loopw [6, 8] (fun vl vj wr => ∃ (j kk : Nat) (v : Value), vl = v ∧ vj = .int .u64 j ∧ j ≤ xc ∧ Hid (kk = k + j) ∧ kk ≤ most ∧ St S W wr (mlT v kk (acc ++ List.replicate j xv) :: M)) (fun _ vj _ => xc - (intOf vj).toNat)
                case atStart => exact ⟨0, k, _, rfl, rfl, by omega, Lib.hid (by omega), by omega, by simpa using h5⟩
                case round =>
                  clear h5
                  obtain ⟨j, kk, v, rfl, rfl, hj, HKJ, hkm, h⟩ := hrel
                  obtain ⟨A4, c4, rfl⟩ := h.own.form
                  obtain ⟨b5, off5, e5, hd0, hd1⟩ := HR2.out _ h.drop (jj + 1) hlt
                  cases e5
                  rw [HV.out] at hd0 hd1
                  simp only at hd0 hd1
                  try simp only [Nat.zero_mul, Nat.add_zero] at hd0 hd1
                  by_cases hjx : j < xc
                  · go_wp2_with (at_builtin; refine wpList_push rfl _ _ _ rfl 34 (.int .u64 0) 1 8 Try.underlying22 u64_info rfl (by decide) h rfl rfl rfl (numsV_one [xv]) (by unfold maxLen; omega) (by omega) ?_; intro A' c' w6 h6)
                    have h7 : St S W w6 (mlT (.slice A' (kk + 1) c') (kk + 1) (acc ++ List.replicate (j + 1) xv) :: M) := by
                      have e : numsV (acc ++ List.replicate (j + 1) xv) = numsV (acc ++ List.replicate j xv) ++ #[Value.int .u64 (xv : Nat)].toList := by
                        rw [List.replicate_succ', ← List.append_assoc, numsV_append]; rfl
                      unfold mlT
                      rw [e]; exact h6
                    have hkm2 : kk + 1 ≤ most := by have := HKJ.out; omega
                    have hkj2 : Hid (kk + 1 = k + (j + 1)) := Lib.hid (by have := HKJ.out; omega)
                    go_roundw
                    case rel => first | exact ⟨j + 1, kk + 1, _, rfl, by go_num, by omega, hkj2, hkm2, h7⟩ | ((repeat apply Exists.intro); exact ⟨⟨j + 1, kk + 1, _, rfl, by go_num, by omega, hkj2, hkm2, h7⟩, rfl⟩)
                    case measure => simp [intOf]; omega
                  · obtain rfl : j = xc := by omega
                    have HL2 : Hid ((acc ++ List.replicate j xv).length = kk) := Lib.hid (by rw [List.length_append, List.length_replicate, HL.out, HKJ.out])
                    have HLA : Hid (((jj + 1) + 1 = 0 ∧ acc ++ List.replicate j xv = []) ∨ (0 < (jj + 1) + 1 ∧ (acc ++ List.replicate j xv).getLast? = some (p.getD ((jj + 1) + 1 - 1) (0, 0)).1)) := Lib.hid (.inr (And.intro (by omega) (by
                      obtain ⟨d, hd⟩ : ∃ d, j = d + 1 := ⟨j - 1, by omega⟩
                      rw [hd, List.replicate_succ', ← List.append_assoc, List.getLast?_concat, Nat.add_sub_cancel, HV.out])))
                    go_wp2_with fail
                    go_roundw
                    case rel => first | exact ⟨(jj + 1) + 1, kk, _, _, rfl, by go_num, by omega, HL2, hkm, HLA, HE, h⟩ | ((repeat apply Exists.intro); exact ⟨⟨(jj + 1) + 1, kk, _, _, rfl, by go_num, by omega, HL2, hkm, HLA, HE, h⟩, rfl⟩)
                    case measure => first | (simp [intOf]; done) | (simp [intOf]; omega)
      · obtain rfl : i = n := by omega
        have hE := HR.out
        rw [HDe.out, un] at hE
        have HE := Lib.hid hE
        clear hE HR
        go_wp2_with fail
        go_ret2
        rw [HE.out]
        have hk2 := HL.out
        subst hk2
        exact ⟨_, rfl, h⟩
end
end Go.Proofs.Ytpdhfmkaeemadaa
