/- Layer 4: the document's list, read. -/
import Derived.Test.YtpdhfmkaeemadaaRRead2
namespace Go.Proofs.Ytpdhfmkaeemadaa
open Go.RowKit Go.WideShapes
set_option linter.unusedVariables false
set_option linter.unusedSimpArgs false
section
variable {S : Nat → Prop} {W w : World} {M : List Thing} {s : ByteArray} {a : Nat}
set_option maxRecDepth 20000 in
set_option maxHeartbeats 8000000 in
theorem rrunread_st (h : St S W w M) (hs : s.size ≤ 1000000) (ha : a ≤ s.size) (most : Int) (hm : -9223372036854775808 ≤ most ∧ most ≤ 1000000) :
    Calls Try.prog 21 #[.string s, .int .i64 a, .int .i64 most] w fun e w' => ∃ v, e = .returned (.tuple #[v, .int .i64 (rrl s.data.toList a most).2.1, .int .i64 (rrl s.data.toList a most).2.2]) ∧ St S W w' (nlT v (rrl s.data.toList a most).1 :: M) := by
  by_cases h0 : most < 0
  · rw [rrl, if_pos h0]
    go_enter Try.func21, Try.ntmps21
    go_wp2_with fail
    go_ret3
    exact ⟨_, rfl, h.nilOwn _ _⟩
  · obtain ⟨most, rfl⟩ : ∃ k : Nat, most = k := ⟨most.toNat, by omega⟩
    have HR0 := Lib.hid (show rrl s.data.toList a most = if (vrd s.data.toList a).2.1 = 0 then rls s.data.toList most (vrd s.data.toList a).1 (vrd s.data.toList a).2.2 [] else ([], (vrd s.data.toList a).2.1, (vrd s.data.toList a).2.2) by rw [rrl, if_neg h0, Int.toNat_natCast])
    generalize rrl s.data.toList a most = R at HR0 ⊢
    have hf := vrd_facts s.data.toList a (by simpa using ha)
    have HQ := Lib.hid (fun w => rread_any s a (by omega) ha w)
    generalize vrd s.data.toList a = T at HQ HR0 hf
    obtain ⟨n, er, en⟩ := T
    obtain ⟨hn, her, hen, hel⟩ := hf
    simp only at HQ HR0 hn her hen hel
    rw [show s.data.toList.length = s.size by simp] at hel
    by_cases he : er = 0
    · subst he
      rw [if_pos rfl] at HR0
      go_enter Try.func21, Try.ntmps21
      go_wp2_with (go_at_call 29; refine (HQ.out _).mono ?_; rintro e w2 ⟨rfl, rfl⟩)
      have h2 := h.nilOwn 34 1
      clear h HQ
      go_loopw [1, 11, 12] (fun va vl vi wr => ∃ (i k at' : Nat) (v : Value) (acc : List Nat), va = .int .i64 at' ∧ vl = v ∧ vi = .int .u64 i ∧ i ≤ n ∧ Hid (acc.length = k) ∧ k ≤ most ∧ at' ≤ s.size ∧ Hid (i = 0 ∧ k = 0 ∨ 0 < i ∧ 0 < k) ∧ Hid (R = rls s.data.toList most (n - i) at' acc) ∧ St S W wr (mlT v k acc :: M)) (fun _ _ vi _ => n - (intOf vi).toNat)
      case atStart => exact ⟨0, 0, en, _, [], rfl, rfl, rfl, by omega, Lib.hid rfl, by omega, hel, Lib.hid (.inl ⟨rfl, rfl⟩), HR0, h2⟩
      case round =>
        clear h2 HR0
        obtain ⟨i, k, at', v, acc, rfl, rfl, rfl, hi, HL, hk, hat, HIK, HR, h⟩ := hrel
        obtain ⟨A3, c3, rfl⟩ := h.own.form
        by_cases hlt : i < n
        · have hE := HR.out
          rw [show n - i = (n - (i + 1)) + 1 by omega, rls, rd2] at hE
          have hf := vrd_facts s.data.toList at' (by simpa using hat)
          have HQ := Lib.hid (fun w => rread_any s at' (by omega) hat w)
          generalize vrd s.data.toList at' = T at HQ hE hf
          obtain ⟨xv, er, en1⟩ := T
          obtain ⟨hx0, her2, hen1, hel1⟩ := hf
          simp only at HQ hE hx0 her2 hen1 hel1
          have hel1' := hel1
          rw [show s.data.toList.length = s.size by simp] at hel1
          clear HR
          by_cases he : er = 0
          · subst he
            rw [if_pos rfl] at hE
            have hf := vrd_facts s.data.toList en1 hel1'
            have HQ2 := Lib.hid (fun w => rread_any s en1 (by omega) hel1 w)
            generalize vrd s.data.toList en1 = T at HQ2 hE hf
            obtain ⟨xc, er3, en2⟩ := T
            obtain ⟨hx1, her3, hen2, hel2⟩ := hf
            simp only at HQ2 hE hx1 her3 hen2 hel2
            rw [show s.data.toList.length = s.size by simp] at hel2
            by_cases he3 : er3 = 0
            · subst he3
              rw [if_pos rfl] at hE
              cases k with
              | zero =>
                have hi0 : i = 0 := by have := HIK.out; omega
                subst hi0
                have hacc : acc = [] := List.eq_nil_of_length_eq_zero HL.out
                rw [if_neg (by rw [hacc]; simp), HL.out] at hE
                clear hacc
                by_cases hlong : most ≤ xc + 0
                · rw [if_pos hlong] at hE
                  have HE := Lib.hid hE
                  have hg : (most : Int) - (0 : Nat) ≤ xc := by omega
                  clear hE
                  go_wp2_with (first
                    | (go_at_call 29; refine (HQ.out _).mono ?_; rintro e w2 ⟨rfl, rfl⟩; clear HQ)
                    | (go_at_call 29; refine (HQ2.out _).mono ?_; rintro e w2 ⟨rfl, rfl⟩))
                  go_ret3
                  rw [HE.out]
                  exact ⟨_, rfl, h.drop.nilOwn _ _⟩
                · rw [if_neg hlong] at hE
                  have HE := Lib.hid hE
                  have hg : ¬ (most : Int) - (0 : Nat) ≤ xc := by omega
                  clear hE
                  have h5 := h
                  clear h
                  go_wp2_with (first
                    | (go_at_call 29; refine (HQ.out _).mono ?_; rintro e w2 ⟨rfl, rfl⟩; clear HQ)
                    | (go_at_call 29; refine (HQ2.out _).mono ?_; rintro e w2 ⟨rfl, rfl⟩))
                  go_loopw [11, 17] (fun vl vj wr => ∃ (jj kk : Nat) (v : Value), vl = v ∧ vj = .int .u64 jj ∧ jj ≤ xc + 1 ∧ Hid (kk = 0 + jj) ∧ kk ≤ most ∧ St S W wr (mlT v kk (acc ++ List.replicate jj xv) :: M)) (fun _ vj _ => xc + 1 - (intOf vj).toNat)
                  case atStart => exact ⟨0, 0, _, rfl, rfl, by omega, Lib.hid (by omega), by omega, by simpa using h5⟩
                  case round =>
                    clear h5
                    obtain ⟨j', kk, v, rfl, rfl, hj, HKJ, hkm, h⟩ := hrel
                    obtain ⟨A4, c4, rfl⟩ := h.own.form
                    by_cases hjx : j' ≤ xc
                    · have hkm2 : kk + 1 ≤ most := by have := HKJ.out; omega
                      have hkj2 : Hid (kk + 1 = 0 + (j' + 1)) := Lib.hid (by have := HKJ.out; omega)
                      go_wp2_with (at_builtin; refine wpList_push rfl _ _ _ rfl 34 (.int .u64 0) 1 8 Try.underlying22 u64_info rfl (by decide) h rfl rfl rfl (numsV_one [xv]) (by unfold maxLen; omega) (by omega) ?_; intro A' c' w6 h6)
                      have h7 : St S W w6 (mlT (.slice A' (kk + 1) c') (kk + 1) (acc ++ List.replicate (j' + 1) xv) :: M) := by
                        have e : numsV (acc ++ List.replicate (j' + 1) xv) = numsV (acc ++ List.replicate j' xv) ++ #[Value.int .u64 (xv : Nat)].toList := by
                          rw [List.replicate_succ', ← List.append_assoc, numsV_append]; rfl
                        unfold mlT
                        rw [e]; exact h6
                      go_roundw
                      case rel => first | exact ⟨j' + 1, kk + 1, _, rfl, by go_num, by omega, hkj2, hkm2, h7⟩ | ((repeat apply Exists.intro); exact ⟨⟨j' + 1, kk + 1, _, rfl, by go_num, by omega, hkj2, hkm2, h7⟩, rfl⟩) | exact ⟨j' + 1, by push_cast; rfl, by omega, kk + 1, (by simpa using hkj2), hkm2, h7⟩
                      case measure => simp [intOf]; omega
                    · obtain rfl : j' = xc + 1 := by omega
                      have HL2 : Hid ((acc ++ List.replicate (xc + 1) xv).length = kk) := Lib.hid (by rw [List.length_append, List.length_replicate, HL.out, HKJ.out])
                      have HIK2 : Hid (0 + 1 = 0 ∧ kk = 0 ∨ 0 < 0 + 1 ∧ 0 < kk) := Lib.hid (.inr ⟨by omega, by have := HKJ.out; omega⟩)
                      have hcc : ¬ ((xc : Int) + 1 ≤ (xc : Int)) := by omega
                      go_wp2_with fail
                      go_roundw
                      case rel => first | exact ⟨0 + 1, kk, en2, _, _, rfl, rfl, by go_num, by omega, HL2, hkm, hel2, HIK2, HE, h⟩ | ((repeat apply Exists.intro); exact ⟨⟨0 + 1, kk, en2, _, _, rfl, rfl, by go_num, by omega, HL2, hkm, hel2, HIK2, HE, h⟩, rfl⟩)
                      case measure => first | (simp [intOf]; done) | (simp [intOf]; omega)
              | succ j =>
                have hi0 : 0 < i := by have := HIK.out; omega
                have hi1 : (0 : Int) < (i : Int) := by omega
                obtain ⟨g3, hA, hc⟩ := h.own.numAt HL.out j (by omega)
                subst hA
                have hk1 : (j : Int) + 1 - 1 = (j : Int) := by omega
                have hkk : (j : Int) < (j : Int) + 1 := by omega
                obtain ⟨z, hz⟩ : ∃ z, acc.getD j 0 = z := ⟨_, rfl⟩
                have HZ := Lib.hid hz
                rw [hz] at hc
                clear hz
                by_cases hs2 : z = xv
                · rw [if_pos ((getLast_getD acc j HL.out xv).2 (HZ.out.trans hs2))] at hE
                  have HE := Lib.hid hE
                  have hzz : ((xv : Int) == (z : Int)) = true := by rw [hs2]; simp
                  clear hs2 hE
                  go_wp2_with (first
                    | (go_at_call 29; refine (HQ.out _).mono ?_; rintro e w2 ⟨rfl, rfl⟩; clear HQ)
                    | (go_at_call 29; refine (HQ2.out _).mono ?_; rintro e w2 ⟨rfl, rfl⟩))
                  go_ret3
                  rw [HE.out]
                  exact ⟨_, rfl, h.drop.nilOwn _ _⟩
                · rw [if_neg (fun e => hs2 (HZ.out.symm.trans ((getLast_getD acc j HL.out xv).1 e))), HL.out] at hE
                  have hzz : ((xv : Int) == (z : Int)) = false := by rw [beq_eq_false_iff_ne]; omega
                  clear hs2
                  by_cases hlong : most ≤ xc + (j + 1)
                  · rw [if_pos hlong] at hE
                    have HE := Lib.hid hE
                    have hg : (most : Int) - ((j + 1) : Nat) ≤ xc := by omega
                    clear hE
                    go_wp2_with (first
                      | (go_at_call 29; refine (HQ.out _).mono ?_; rintro e w2 ⟨rfl, rfl⟩; clear HQ)
                      | (go_at_call 29; refine (HQ2.out _).mono ?_; rintro e w2 ⟨rfl, rfl⟩))
                    go_ret3
                    rw [HE.out]
                    exact ⟨_, rfl, h.drop.nilOwn _ _⟩
                  · rw [if_neg hlong] at hE
                    have HE := Lib.hid hE
                    have hg : ¬ (most : Int) - ((j + 1) : Nat) ≤ xc := by omega
                    clear hE
                    have h5 := h
                    clear h
                    go_wp2_with (first
                      | (go_at_call 29; refine (HQ.out _).mono ?_; rintro e w2 ⟨rfl, rfl⟩; clear HQ)
                      | (go_at_call 29; refine (HQ2.out _).mono ?_; rintro e w2 ⟨rfl, rfl⟩))
                    go_loopw [11, 17] (fun vl vj wr => ∃ (jj kk : Nat) (v : Value), vl = v ∧ vj = .int .u64 jj ∧ jj ≤ xc + 1 ∧ Hid (kk = (j + 1) + jj) ∧ kk ≤ most ∧ St S W wr (mlT v kk (acc ++ List.replicate jj xv) :: M)) (fun _ vj _ => xc + 1 - (intOf vj).toNat)
                    case atStart => exact ⟨0, (j + 1), _, rfl, rfl, by omega, Lib.hid (by omega), by omega, by simpa using h5⟩
                    case round =>
                      clear h5
                      obtain ⟨j', kk, v, rfl, rfl, hj, HKJ, hkm, h⟩ := hrel
                      obtain ⟨A4, c4, rfl⟩ := h.own.form
                      by_cases hjx : j' ≤ xc
                      · have hkm2 : kk + 1 ≤ most := by have := HKJ.out; omega
                        have hkj2 : Hid (kk + 1 = (j + 1) + (j' + 1)) := Lib.hid (by have := HKJ.out; omega)
                        go_wp2_with (at_builtin; refine wpList_push rfl _ _ _ rfl 34 (.int .u64 0) 1 8 Try.underlying22 u64_info rfl (by decide) h rfl rfl rfl (numsV_one [xv]) (by unfold maxLen; omega) (by omega) ?_; intro A' c' w6 h6)
                        have h7 : St S W w6 (mlT (.slice A' (kk + 1) c') (kk + 1) (acc ++ List.replicate (j' + 1) xv) :: M) := by
                          have e : numsV (acc ++ List.replicate (j' + 1) xv) = numsV (acc ++ List.replicate j' xv) ++ #[Value.int .u64 (xv : Nat)].toList := by
                            rw [List.replicate_succ', ← List.append_assoc, numsV_append]; rfl
                          unfold mlT
                          rw [e]; exact h6
                        go_roundw
                        case rel => first | exact ⟨j' + 1, kk + 1, _, rfl, by go_num, by omega, hkj2, hkm2, h7⟩ | ((repeat apply Exists.intro); exact ⟨⟨j' + 1, kk + 1, _, rfl, by go_num, by omega, hkj2, hkm2, h7⟩, rfl⟩) | exact ⟨j' + 1, by push_cast; rfl, by omega, kk + 1, (by simpa using hkj2), hkm2, h7⟩
                        case measure => simp [intOf]; omega
                      · obtain rfl : j' = xc + 1 := by omega
                        have HL2 : Hid ((acc ++ List.replicate (xc + 1) xv).length = kk) := Lib.hid (by rw [List.length_append, List.length_replicate, HL.out, HKJ.out])
                        have HIK2 : Hid (i + 1 = 0 ∧ kk = 0 ∨ 0 < i + 1 ∧ 0 < kk) := Lib.hid (.inr ⟨by omega, by have := HKJ.out; omega⟩)
                        have hcc : ¬ ((xc : Int) + 1 ≤ (xc : Int)) := by omega
                        go_wp2_with fail
                        go_roundw
                        case rel => first | exact ⟨i + 1, kk, en2, _, _, rfl, rfl, by go_num, by omega, HL2, hkm, hel2, HIK2, HE, h⟩ | ((repeat apply Exists.intro); exact ⟨⟨i + 1, kk, en2, _, _, rfl, rfl, by go_num, by omega, HL2, hkm, hel2, HIK2, HE, h⟩, rfl⟩)
                        case measure => first | (simp [intOf]; done) | (simp [intOf]; omega)
            · rw [if_neg he3] at hE
              have HE := Lib.hid hE
              have hne : ((er3 : Int) != 0) = true := by rw [bne_iff_ne]; omega
              clear he3 hE
              go_wp2_with (first
                | (go_at_call 29; refine (HQ.out _).mono ?_; rintro e w2 ⟨rfl, rfl⟩; clear HQ)
                | (go_at_call 29; refine (HQ2.out _).mono ?_; rintro e w2 ⟨rfl, rfl⟩))
              go_ret3
              rw [HE.out]
              exact ⟨_, rfl, h.drop.nilOwn _ _⟩
          · rw [if_neg he, if_neg he] at hE
            have HE := Lib.hid hE
            have hne : ((er : Int) != 0) = true := by rw [bne_iff_ne]; omega
            clear he hE
            go_wp2_with (go_at_call 29; refine (HQ.out _).mono ?_; rintro e w2 ⟨rfl, rfl⟩)
            go_ret3
            rw [HE.out]
            exact ⟨_, rfl, h.drop.nilOwn _ _⟩
        · obtain rfl : i = n := by omega
          have hE := HR.out
          rw [Nat.sub_self, rls] at hE
          have HE := Lib.hid hE
          clear hE HR
          go_wp2_with fail
          go_ret3
          rw [HE.out]
          have hk2 := HL.out
          subst hk2
          exact ⟨_, rfl, h⟩
    · rw [if_neg he] at HR0
      have hne : ((er : Int) != 0) = true := by rw [bne_iff_ne]; omega
      clear he
      go_enter Try.func21, Try.ntmps21
      go_wp2_with (go_at_call 29; refine (HQ.out _).mono ?_; rintro e w2 ⟨rfl, rfl⟩)
      go_ret3
      rw [HR0.out]
      exact ⟨_, rfl, h.nilOwn _ _⟩
end
end Go.Proofs.Ytpdhfmkaeemadaa
