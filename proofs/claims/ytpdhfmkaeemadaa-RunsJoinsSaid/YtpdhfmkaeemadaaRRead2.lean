/- Layer 4: a list read. -/
import Derived.Test.YtpdhfmkaeemadaaRRead
namespace Go.Proofs.Ytpdhfmkaeemadaa
open Go.RowKit Go.WideShapes
set_option linter.unusedVariables false
set_option linter.unusedSimpArgs false
section
variable {S : Nat → Prop} {W w : World} {M : List Thing} {b : Nat} {s : ByteArray} {a : Nat}
set_option maxRecDepth 20000 in
set_option maxHeartbeats 8000000 in
theorem runread_st (h : St S W w [rdT b s a]) (hs : s.size ≤ 1000000) (ha : a ≤ s.size) (most : Int) (hm : -9223372036854775808 ≤ most ∧ most ≤ 1000000) :
    Calls Try.prog 18 #[.pointer (some ⟨b, 0, none⟩), .int .i64 most] w fun e w' => ∃ v, e = .returned (.tuple #[v, .int .i64 (rrl s.data.toList a most).2.1]) ∧ St S W w' [nlT v (rrl s.data.toList a most).1, rdT b s (rrl s.data.toList a most).2.2] := by
  by_cases h0 : most < 0
  · rw [rrl, if_pos h0]
    go_enter Try.func18, Try.ntmps18
    go_wp2_with fail
    go_ret2
    exact ⟨_, rfl, h.nilOwn _ _⟩
  · obtain ⟨most, rfl⟩ : ∃ k : Nat, most = k := ⟨most.toNat, by omega⟩
    have HR0 := Lib.hid (show rrl s.data.toList a most = if (vrd s.data.toList a).2.1 = 0 then rls s.data.toList most (vrd s.data.toList a).1 (vrd s.data.toList a).2.2 [] else ([], (vrd s.data.toList a).2.1, (vrd s.data.toList a).2.2) by rw [rrl, if_neg h0, Int.toNat_natCast])
    generalize rrl s.data.toList a most = R at HR0 ⊢
    have hf := vrd_facts s.data.toList a (by simpa using ha)
    have HV := Lib.hid (vread_st h (by omega) ha)
    generalize vrd s.data.toList a = T at HV HR0 hf
    obtain ⟨n, er, en⟩ := T
    obtain ⟨hn, her, hen, hel⟩ := hf
    simp only at HV HR0 hn her hen hel
    rw [show s.data.toList.length = s.size by simp] at hel
    clear h
    by_cases he : er = 0
    · subst he
      rw [if_pos rfl] at HR0
      go_enter Try.func18, Try.ntmps18
      go_wp2_with (go_at_call 26; refine HV.out.mono ?_; rintro e w1 ⟨rfl, h1⟩)
      have h2 := h1.nilOwn 34 1
      clear h1 HV
      go_loopw [4, 21] (fun vl vi wr => ∃ (i k at' : Nat) (v : Value) (acc : List Nat), vl = v ∧ vi = .int .u64 i ∧ i ≤ n ∧ Hid (acc.length = k) ∧ k ≤ most ∧ at' ≤ s.size ∧ Hid (R = rls s.data.toList most (n - i) at' acc) ∧ St S W wr [mlT v k acc, rdT b s at']) (fun _ vi _ => n - (intOf vi).toNat)
      case atStart => exact ⟨0, 0, en, _, [], rfl, rfl, by omega, Lib.hid rfl, by omega, hel, HR0, h2⟩
      case round =>
        clear h2 HR0
        obtain ⟨i, k, at', v, acc, rfl, rfl, hi, HL, hk, hat, HR, h⟩ := hrel
        obtain ⟨A3, c3, rfl⟩ := h.own.form
        by_cases hlt : i < n
        · have hE := HR.out
          rw [show n - i = (n - (i + 1)) + 1 by omega, rls] at hE
          have hf := rd2_facts s.data.toList at' (by simpa using hat)
          have HP := Lib.hid (pread_st h.swap hs hat)
          generalize rd2 s.data.toList at' = T at HP hE hf
          obtain ⟨xv, xc, er, en2⟩ := T
          obtain ⟨hx0, hx1, her2, hen2, hel2⟩ := hf
          simp only at HP hE hx0 hx1 her2 hen2 hel2
          rw [show s.data.toList.length = s.size by simp] at hel2
          have h0own := h.own
          clear HR h
          by_cases he : er = 0
          · subst he
            rw [if_pos rfl] at hE
            cases k with
            | zero =>
              have hacc : acc = [] := List.eq_nil_of_length_eq_zero HL.out
              rw [if_neg (by rw [hacc]; simp), HL.out] at hE
              have hlast : ¬ acc.getLast? = some xv := by rw [hacc]; simp
              have HLs := Lib.hid hlast
              have hk0 : ¬ (0 : Int) < ((0 : Nat) : Int) := by omega
              clear hacc hlast
              go_wp2_with (go_at_call 27; refine HP.out.mono ?_; rintro e w1 ⟨rfl, h1⟩; have h3 := h1.alloc #[Value.int .u64 xv, Value.int .u64 xc] 36; have kx0 := fun a : After (w1.alloc (.cells #[Value.int .u64 xv, Value.int .u64 xc] 36)) => (After.ext a).cell (p := ⟨w1.heap.size, 0, none⟩) (cell_of_heap h3.blk 0))
              (refine wp_region_after (by kernel_rfl) (by kernel_rfl) ?_; (repeat (first | go_big_quiet_skip | (go_big_quiet_want; first | (fail; simp only [Act.put, List.setIfInBounds_toArray, List.set_cons_succ, List.set_cons_zero]; go_big_quiet_on) | (go_big_quiet_op; first | go_big_quiet_on | (apply Exists.intro; refine ⟨fun _ => ?_, ?_⟩; (· (fail)); go_big_quiet_on))))); refine wpQuiet_nil ?_; rintro _ ⟨y, rfl⟩)
              have h4 := h3.ext y.ext
              clear kx0 h3 h1
              generalize w1.heap.size = bx at h4 ⊢
              have c1 := cell_of_heap h4.blk 1
              have f1 := free_of_heap h4.blk 1
              have c0 := cell_of_heap h4.blk 0
              change y.w.cell? _ = some (.int .u64 xc) at c1
              change y.w.cell? _ = some (.int .u64 xv) at c0
              by_cases hlong : most ≤ xc + 0
              · rw [if_pos hlong] at hE
                have HE := Lib.hid hE
                have hg : (most : Int) - (0 : Nat) ≤ xc := by omega
                clear hE
                go_wp2_with fail
                go_ret2
                rw [HE.out]
                exact ⟨_, rfl, (h4.drop.swap.drop).nilOwn _ _⟩
              · rw [if_neg hlong] at hE
                have HE := Lib.hid hE
                have hg : ¬ (most : Int) - (0 : Nat) ≤ xc := by omega
                clear hE
                have h5 := h4.set 1 (.int .u64 ((xc : Int) + 1))
                change St S W _ (blkT bx #[Value.int .u64 xv, Value.int .u64 ((xc : Int) + 1)] 36 :: _) at h5
                have h6 := h5.pull 2
                change St S W _ [mlT _ _ _, blkT _ _ _, rdT _ _ _] at h6
                have HC := add_go _ 0 c3 xv (xc + 1) (by omega) hx0 (by omega) most (by omega) (by omega) acc h6 HL.out HLs.out
                simp only [Int.natCast_add, Int.natCast_one] at HC
                have HCC := Lib.hid HC
                have hle : 0 + (xc + 1) ≤ most := by omega
                clear HC h4 h5 h6
                go_wp2_with (go_at_call 22; refine HCC.out.mono ?_; rintro e w4 ⟨v2, er, rfl, h7, _⟩; obtain ⟨rfl, A4, c4, rfl, h8⟩ := h7 hle)
                have h9 := h8.swap.drop
                have HL2 : Hid ((acc ++ List.replicate (xc + 1) xv).length = 0 + (xc + 1)) := Lib.hid (by rw [List.length_append, List.length_replicate, HL.out])
                go_roundw
                case rel => first | exact ⟨i + 1, 0 + (xc + 1), en2, _, _, rfl, by go_num, by omega, HL2, hle, hel2, HE, h9⟩ | ((repeat apply Exists.intro); exact ⟨⟨i + 1, 0 + (xc + 1), en2, _, _, rfl, by go_num, by omega, HL2, hle, hel2, HE, h9⟩, rfl⟩) | exact ⟨i + 1, xc + 1, en2, _, _, rfl, by go_num, by omega, (by simpa using HL2), (by omega), hel2, HE, (by simpa using h9)⟩
                case measure => simp [intOf]; omega
            | succ j =>
              obtain ⟨g3, hA, _⟩ := h0own.numAt HL.out j (by omega)
              subst hA
              obtain ⟨z, hz⟩ : ∃ z, acc.getD j 0 = z := ⟨_, rfl⟩
              have HZ := Lib.hid hz
              clear hz
              by_cases hs2 : z = xv
              · rw [if_pos ((getLast_getD acc j HL.out xv).2 (HZ.out.trans hs2))] at hE
                have hzz : ((z : Int) == (xv : Int)) = true := by rw [hs2]; simp
                clear hs2
                have HE := Lib.hid hE
                clear hE
                have hk0 : (0 : Int) < (j : Int) + 1 := by omega
                have hk1 : (j : Int) + 1 - 1 = (j : Int) := by omega
                have hkk : (j : Int) < (j : Int) + 1 := by omega
                have hk2 : (0 : Int) ≤ (j : Int) := by omega
                clear h0own
                go_wp2_with (go_at_call 27; refine HP.out.mono ?_; rintro e w1 ⟨rfl, h1⟩; have h3 := h1.alloc #[Value.int .u64 xv, Value.int .u64 xc] 36; have kx0 := fun a : After (w1.alloc (.cells #[Value.int .u64 xv, Value.int .u64 xc] 36)) => (After.ext a).cell (p := ⟨w1.heap.size, 0, none⟩) (cell_of_heap h3.blk 0); obtain ⟨g4, hA4, hc4⟩ := (h3.pull 2).own.numAt HL.out j (Nat.lt_succ_self j); cases hA4; rw [HZ.out] at hc4; have kl := fun a : After (w1.alloc (.cells #[Value.int .u64 xv, Value.int .u64 xc] 36)) => (After.ext a).cell hc4; clear hc4)
                (refine wp_region_after (by kernel_rfl) (by kernel_rfl) ?_; (repeat (first | go_big_quiet_skip | (go_big_quiet_want; first | (fail; simp only [Act.put, List.setIfInBounds_toArray, List.set_cons_succ, List.set_cons_zero]; go_big_quiet_on) | (go_big_quiet_op; first | go_big_quiet_on | (apply Exists.intro; refine ⟨fun _ => ?_, ?_⟩; (· (fail)); go_big_quiet_on))))); refine wpQuiet_nil ?_; rintro _ ⟨y, rfl⟩)
                have h4 := h3.ext y.ext
                go_wp2_with fail
                go_ret2
                rw [HE.out]
                exact ⟨_, rfl, (h4.drop.swap.drop).nilOwn _ _⟩
              · have hlast : ¬ acc.getLast? = some xv := fun e => hs2 (HZ.out.symm.trans ((getLast_getD acc j HL.out xv).1 e))
                have hzz : ((z : Int) == (xv : Int)) = false := by rw [beq_eq_false_iff_ne]; omega
                clear hs2
                rw [if_neg hlast, HL.out] at hE
                have HLs := Lib.hid hlast
                clear hlast
                have hk0 : (0 : Int) < (j : Int) + 1 := by omega
                have hk1 : (j : Int) + 1 - 1 = (j : Int) := by omega
                have hkk : (j : Int) < (j : Int) + 1 := by omega
                have hk2 : (0 : Int) ≤ (j : Int) := by omega
                clear h0own
                go_wp2_with (go_at_call 27; refine HP.out.mono ?_; rintro e w1 ⟨rfl, h1⟩; have h3 := h1.alloc #[Value.int .u64 xv, Value.int .u64 xc] 36; have kx0 := fun a : After (w1.alloc (.cells #[Value.int .u64 xv, Value.int .u64 xc] 36)) => (After.ext a).cell (p := ⟨w1.heap.size, 0, none⟩) (cell_of_heap h3.blk 0); obtain ⟨g4, hA4, hc4⟩ := (h3.pull 2).own.numAt HL.out j (Nat.lt_succ_self j); cases hA4; rw [HZ.out] at hc4; have kl := fun a : After (w1.alloc (.cells #[Value.int .u64 xv, Value.int .u64 xc] 36)) => (After.ext a).cell hc4; clear hc4)
                (refine wp_region_after (by kernel_rfl) (by kernel_rfl) ?_; (repeat (first | go_big_quiet_skip | (go_big_quiet_want; first | (fail; simp only [Act.put, List.setIfInBounds_toArray, List.set_cons_succ, List.set_cons_zero]; go_big_quiet_on) | (go_big_quiet_op; first | go_big_quiet_on | (apply Exists.intro; refine ⟨fun _ => ?_, ?_⟩; (· (fail)); go_big_quiet_on))))); refine wpQuiet_nil ?_; rintro _ ⟨y, rfl⟩)
                clear kl
                have h4 := h3.ext y.ext
                clear kx0 h3 h1
                generalize w1.heap.size = bx at h4 ⊢
                have c1 := cell_of_heap h4.blk 1
                have f1 := free_of_heap h4.blk 1
                have c0 := cell_of_heap h4.blk 0
                change y.w.cell? _ = some (.int .u64 xc) at c1
                change y.w.cell? _ = some (.int .u64 xv) at c0
                by_cases hlong : most ≤ xc + (j + 1)
                · rw [if_pos hlong] at hE
                  have HE := Lib.hid hE
                  have hg : (most : Int) - ((j + 1) : Nat) ≤ xc := by omega
                  clear hE
                  go_wp2_with fail
                  go_ret2
                  rw [HE.out]
                  exact ⟨_, rfl, (h4.drop.swap.drop).nilOwn _ _⟩
                · rw [if_neg hlong] at hE
                  have HE := Lib.hid hE
                  have hg : ¬ (most : Int) - ((j + 1) : Nat) ≤ xc := by omega
                  clear hE
                  have h5 := h4.set 1 (.int .u64 ((xc : Int) + 1))
                  change St S W _ (blkT bx #[Value.int .u64 xv, Value.int .u64 ((xc : Int) + 1)] 36 :: _) at h5
                  have h6 := h5.pull 2
                  change St S W _ [mlT _ _ _, blkT _ _ _, rdT _ _ _] at h6
                  have HC := add_go _ (j + 1) c3 xv (xc + 1) (by omega) hx0 (by omega) most (by omega) (by omega) acc h6 HL.out HLs.out
                  simp only [Int.natCast_add, Int.natCast_one] at HC
                  have HCC := Lib.hid HC
                  have hle : (j + 1) + (xc + 1) ≤ most := by omega
                  clear HC h4 h5 h6
                  go_wp2_with (go_at_call 22; refine HCC.out.mono ?_; rintro e w4 ⟨v2, er, rfl, h7, _⟩; obtain ⟨rfl, A4, c4, rfl, h8⟩ := h7 hle)
                  have h9 := h8.swap.drop
                  have HL2 : Hid ((acc ++ List.replicate (xc + 1) xv).length = (j + 1) + (xc + 1)) := Lib.hid (by rw [List.length_append, List.length_replicate, HL.out])
                  go_roundw
                  case rel => first | exact ⟨i + 1, (j + 1) + (xc + 1), en2, _, _, rfl, by go_num, by omega, HL2, hle, hel2, HE, h9⟩ | ((repeat apply Exists.intro); exact ⟨⟨i + 1, (j + 1) + (xc + 1), en2, _, _, rfl, by go_num, by omega, HL2, hle, hel2, HE, h9⟩, rfl⟩) | exact ⟨i + 1, xc + 1, en2, _, _, rfl, by go_num, by omega, (by simpa using HL2), (by omega), hel2, HE, (by simpa using h9)⟩
                  case measure => simp [intOf]; omega
          · rw [if_neg he] at hE
            have HE := Lib.hid hE
            have hne : ((er : Int) != 0) = true := by rw [bne_iff_ne]; omega
            clear he hE
            go_wp2_with (go_at_call 27; refine HP.out.mono ?_; rintro e w1 ⟨rfl, h1⟩)
            go_ret2
            rw [HE.out]
            exact ⟨_, rfl, ((h1.alloc #[Value.int .u64 xv, Value.int .u64 xc] 36).drop.swap.drop).nilOwn _ _⟩
        · obtain rfl : i = n := by omega
          have hE := HR.out
          rw [Nat.sub_self, rls] at hE
          have HE := Lib.hid hE
          clear hE HR
          go_wp2_with fail
          go_ret2
          rw [HE.out]
          have hk2 := HL.out
          subst hk2
          exact ⟨_, rfl, h⟩
    · rw [if_neg he] at HR0
      have hne : ((er : Int) != 0) = true := by rw [bne_iff_ne]; omega
      clear he
      go_enter Try.func18, Try.ntmps18
      go_wp2_with (go_at_call 26; refine HV.out.mono ?_; rintro e w1 ⟨rfl, h1⟩)
      go_ret2
      rw [HR0.out]
      exact ⟨_, rfl, h1.nilOwn _ _⟩
end
end Go.Proofs.Ytpdhfmkaeemadaa
