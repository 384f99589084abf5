/- Layer 9: CodeDigests. -/
import Derived.Test.YtklkboibpglhjaaCDig
import Derived.Test.YtklkboibpglhjaaCLaw2
namespace Go.Proofs.Ytklkboibpglhjaa
open Go.RowKit Go.WideShapes Go.Proofs.YtklkboibpglhjaaW.PrintWords
set_option linter.unusedVariables false
set_option linter.unusedSimpArgs false
theorem getD_mem' (ts : List (List Ins)) (h : 0 < ts.length) : ts.getD 0 [] ∈ ts := by
  cases ts with
  | nil => simp at h
  | cons a l => simp
theorem beq_nat (a b : Nat) : (((a : Nat) : Int) == ((b : Nat) : Int)) = decide (a = b) := by
  by_cases h : a = b
  · rw [h, decide_eq_true rfl]; exact beq_self_eq_true _
  · rw [decide_eq_false h, beq_eq_false_iff_ne]; omega
theorem decide_xor (a b : Nat) : decide (a = a ^^^ b) = decide (b = 0) := by
  by_cases h : b = 0
  · rw [h, Nat.xor_zero, decide_eq_true rfl, decide_eq_true rfl]
  · rw [decide_eq_false h, decide_eq_false]
    intro e
    have := congrArg (a ^^^ ·) e
    simp only [Nat.xor_self, ← Nat.xor_assoc, Nat.zero_xor] at this
    exact h this.symm
theorem setK_ok (p : Prg) (j k : Nat) (ht : 0 < p.ths.length) (hj : j < (p.ths.getD 0 []).length) (hok : p.ok) (hk : k < 18446744073709551616) : (setK p j k).ok := by
  intro l hl x hx
  rcases List.mem_or_eq_of_mem_set hl with h | rfl
  · exact hok l h x hx
  · rcases List.mem_or_eq_of_mem_set hx with h | rfl
    · exact hok _ (getD_mem' p.ths ht) x h
    · have := hok _ (getD_mem' p.ths ht) _ (getD_mem _ j hj)
      exact ⟨this.1, this.2.1, this.2.2.1, this.2.2.2.1, this.2.2.2.2.1, hk⟩
theorem setK_len (p : Prg) (j k : Nat) (ht : 0 < p.ths.length) (h : ∀ l ∈ p.ths, l.length ≤ 9223372036854775807) : ∀ l ∈ (setK p j k).ths, l.length ≤ 9223372036854775807 := by
  intro l hl
  rcases List.mem_or_eq_of_mem_set hl with h2 | rfl
  · exact h l h2
  · rw [List.length_set]; exact h _ (getD_mem' p.ths ht)
set_option maxRecDepth 20000 in
set_option maxHeartbeats 8000000 in
theorem codeDigests_w (A B : Option Addr) (ca cb n m : Nat) (p : Prg) (hn : p.rings.length = n) (hm : p.ths.length = m) (at_ : Int) (y : Nat) (hat : -9223372036854775808 ≤ at_ ∧ at_ < 9223372036854775808) (hy : y < 256) (w : World) (hp : PArg w (.agg #[.slice A n ca, .slice B m cb]) p) :
    Calls Try.prog 7 #[.agg #[.slice A n ca, .slice B m cb], .int .i64 at_, .int .u8 y] w fun e w' => e = .returned (.bool true) ∧ Ext w w' := by
  have HP := Lib.hid hp
  have P := HP.out
  have HM := Lib.hid hm
  have HN := Lib.hid hn
  have HAt := Lib.hid hat
  have HY := Lib.hid hy
  clear hn hm hp HP hat hy
  have h1 := (St.start noB w).alloc #[Value.slice A n ca, Value.slice B m cb] 35
  have FP := Lib.hid (fun w' (x : Ext w w') => few_p _ p 100 (by omega) w' (P.ext x))
  have WP := Lib.hid (fun w' (x : Ext w w') => rwritten_p _ p w' (P.ext x))
  have HP := Lib.hid P
  clear P
  go_enter Try.func7, Try.ntmps7
  go_wp2_with fail
  refine (cawake_any _).mono ?_
  rintro e w1 ⟨rfl, x1⟩
  have h := h1.ext x1
  clear h1 x1
  generalize hpb : w.heap.size = pb at h ⊢
  have HPB := Lib.hid hpb
  clear hpb
  have p0 := cell_of_heap h.blk 0
  have p1 := cell_of_heap h.blk 1
  change w1.cell? _ = some (Value.slice A n ca) at p0
  change w1.cell? _ = some (Value.slice B m cb) at p1
  cases hfp : fewB p 100 with
  | false =>
    rw [hfp] at FP
    clear hfp
    go_wp2_with fail
    refine (FP.out w1 h.ends).mono ?_
    rintro e w2 ⟨rfl, x2⟩
    replace h := h.ext x2
    clear p0 p1
    go_wp2_with fail
    refine (cawake_any _).mono ?_
    rintro e wz ⟨rfl, xz⟩
    go_wp2_with fail
    go_ret
    exact ⟨rfl, h.ends.trans xz⟩
  | true =>
    obtain ⟨f1, f2, f3⟩ := few_small p hfp
    have HFew := Lib.hid (And.intro f1 (And.intro f2 f3))
    rw [hfp] at FP
    clear hfp f1 f2 f3
    go_wp2_with fail
    refine (FP.out w1 h.ends).mono ?_
    rintro e w2 ⟨rfl, x2⟩
    replace h := h.ext x2
    clear p0 p1
    have p0 := cell_of_heap h.blk 0
    have p1 := cell_of_heap h.blk 1
    change w2.cell? _ = some (Value.slice A n ca) at p0
    change w2.cell? _ = some (Value.slice B m cb) at p1
    cases hwp : writtenB p with
    | false =>
      rw [hwp] at WP
      clear hwp
      go_wp2_with fail
      refine (WP.out w2 h.ends).mono ?_
      rintro e w3 ⟨rfl, x3⟩
      replace h := h.ext x3
      clear p0 p1
      go_wp2_with fail
      refine (cawake_any _).mono ?_
      rintro e wz ⟨rfl, xz⟩
      go_wp2_with fail
      go_ret
      exact ⟨rfl, h.ends.trans xz⟩
    | true =>
      have HWP := Lib.hid hwp
      rw [hwp] at WP
      clear hwp
      go_wp2_with fail
      refine (WP.out w2 h.ends).mono ?_
      rintro e w3 ⟨rfl, x3⟩
      replace h := h.ext x3
      clear p0 p1 WP FP
      have p0 := cell_of_heap h.blk 0
      have p1 := cell_of_heap h.blk 1
      change w3.cell? _ = some (Value.slice A n ca) at p0
      change w3.cell? _ = some (Value.slice B m cb) at p1
      by_cases hm0 : m = 0
      · subst hm0
        go_wp2_with fail
        refine (cawake_any _).mono ?_
        rintro e wz ⟨rfl, xz⟩
        go_wp2_with fail
        go_ret
        exact ⟨rfl, h.ends.trans xz⟩
      · have hmz : (((m : Nat) : Int) == 0) = false := by rw [beq_eq_false_iff_ne]; omega
        obtain ⟨_, _, _, _, hag, _, _, hrow⟩ := HP.out.arg
        injection hag with hag
        simp only [Array.mk.injEq, List.cons.injEq, Value.slice.injEq, and_true] at hag
        obtain ⟨⟨e1, e5, e2⟩, ⟨e3, e6, e4⟩⟩ := hag
        subst e1 e2 e3 e4
        clear e5 e6
        obtain ⟨bb, off, rfl, A0, c0, hc0, d1, d2, d3⟩ := hrow.th 0 (by rw [HM.out]; omega)
        clear d1 d2 d3
        rw [Nat.add_zero] at hc0
        have q0 := h.ends.cell hc0
        clear hrow hc0
        generalize hl : (p.ths.getD 0 []).length = l at q0
        have HL := Lib.hid hl
        clear hl
        by_cases hl0 : l = 0
        · subst hl0
          go_wp2_with fail
          refine (cawake_any _).mono ?_
          rintro e wz ⟨rfl, xz⟩
          go_wp2_with fail
          go_ret
          exact ⟨rfl, h.ends.trans xz⟩
        · have hlz : (((l : Nat) : Int) == 0) = false := by rw [beq_eq_false_iff_ne]; omega
          by_cases hy0 : y = 0
          · subst hy0
            go_wp2_with fail
            refine (cawake_any _).mono ?_
            rintro e wz ⟨rfl, xz⟩
            go_wp2_with fail
            go_ret
            exact ⟨rfl, h.ends.trans xz⟩
          · have hyz : (((y : Nat) : Int) == 0) = false := by rw [beq_eq_false_iff_ne]; omega
            have HC := Lib.hid (fun w' (x : Ext w w') => copy_own _ p w' (HP.out.ext x) (by have := HFew.out.1; omega) (by have := HFew.out.2.1; omega) (fun l hl => by have := HFew.out.2.2 l hl; omega))
            go_wp2_with fail
            have HPB3 := Lib.hid (show pb < w3.heap.size from (Array.getElem?_eq_some_iff.1 h.blk).1)
            refine (HC.out w3 h.ends).mono ?_
            rintro e w4 ⟨v0, v1, rfl, hcp, x4⟩
            have hl100 : l ≤ 100 := by
              have := HFew.out.2.2 (p.ths.getD 0 []) (getD_mem' p.ths (by rw [HM.out]; omega))
              rw [HL.out] at this
              exact this
            replace h := h.ext x4
            have hj : ∃ j : Nat, j < l ∧ wrap64 (Int.tmod (IntKind.u64.wrap at_) l) = j := by
              have hw : 0 ≤ IntKind.u64.wrap at_ := Int.emod_nonneg at_ (b := 18446744073709551616) (by decide)
              refine ⟨(Int.tmod (IntKind.u64.wrap at_) l).toNat, ?_, ?_⟩
              · have := Int.tmod_lt_of_pos (IntKind.u64.wrap at_) (show (0 : Int) < l by omega)
                omega
              · have h1 := Int.tmod_nonneg (l : Int) hw
                have h2 := Int.tmod_lt_of_pos (IntKind.u64.wrap at_) (show (0 : Int) < l by omega)
                unfold wrap64
                omega
            obtain ⟨j, hj, hjw⟩ := hj
            obtain ⟨g, cap, hh, cap2, hv1, hb, hs, c1, ko, kk, kf, kset⟩ := hcp.write (by rw [HM.out]; omega) j (by rw [HL.out]; omega)
            obtain ⟨A5, c5, hv0, d4⟩ := Kd.R_reads hcp.rg
            clear d4
            rw [List.length_map, HN.out] at hv0
            rw [HM.out] at hv1
            rw [HL.out] at c1
            subst hv0 hv1
            have hA := Lib.hid (hcp.arg HP.out.ok HP.out.nr HP.out.nt HP.out.nl)
            have hkset := Lib.hid kset
            clear kset
            generalize hx : (p.ths.getD 0 []).getD j default = x at ko kk
            have HX := Lib.hid hx
            clear hx
            have h5 := h.alloc #[Value.slice A5 n c5, Value.slice (some ⟨g, 0, none⟩) m cap] 35
            have y5 := (Mut.refl noB w4).alloc (.cells #[Value.slice A5 n c5, Value.slice (some ⟨g, 0, none⟩) m cap] 35)
            have hA2 := Lib.hid (hA.out.ext y5)
            have hcp5 := hcp.ext y5
            have hdr := h5.ends
            have hq5 : hh ≠ w4.heap.size := by omega
            have c2 := Ext.cell y5 c1
            clear hkset hA HX ko kk kf hcp c1 y5 h
            go_wp2_with fail
            generalize w4.alloc (.cells #[Value.slice A5 n c5, Value.slice (some ⟨g, 0, none⟩) m cap] 35) = w5 at hcp5 hdr h5 c2 hA2 ⊢
            generalize w4.heap.size = qb at hq5 h5 ⊢
            have z0 := cell_of_heap h5.blk 0
            have z1 := cell_of_heap h5.blk 1
            change World.cell? _ _ = some (Value.slice A5 n c5) at z0
            change World.cell? _ _ = some (Value.slice (some ⟨g, 0, none⟩) m cap) at z1
            have ka1 := fun a : After w5 => (After.ext a).cell c2
            have ka2 := fun a : After w5 => (After.ext a).cell z1
            (refine wp_region_after (by kernel_rfl) (by kernel_rfl) ?_; (repeat (first | go_big_quiet_skip | (go_big_quiet_want; first | (fail; simp only [Act.put, List.setIfInBounds_toArray, List.set_cons_succ, List.set_cons_zero]; go_big_quiet_on) | (go_big_quiet_op; first | go_big_quiet_on | (apply Exists.intro; refine ⟨fun _ => ?_, ?_⟩; (· (fail)); go_big_quiet_on))))); refine wpQuiet_nil ?_; rintro _ ⟨r, rfl⟩)
            have hcp6 := hcp5.ext r.ext
            have h6 := h5.ext r.ext
            have c2 := Ext.cell r.ext c2
            clear ka1 ka2 z0 z1 h5 hA2 hcp5
            generalize r.w = w6 at hcp6 h6 c2 ⊢
            clear r
            obtain ⟨g2, cap3, hh2, cap4, hv1, hb2, hs2, c3, ko, kk, kf, kset⟩ := hcp6.write (by rw [HM.out]; omega) j (by rw [HL.out]; omega)
            have e9 : g = g2 := by
              simp only [Option.some.injEq, Value.slice.injEq, Addr.mk.injEq] at hv1
              exact hv1.1.1
            subst e9
            have e10 : hh = hh2 := by
              have c4 := c2.symm.trans c3
              simp only [Option.some.injEq, Value.slice.injEq, Addr.mk.injEq] at c4
              exact c4.1.1
            subst e10
            clear hv1
            have hA6 := Lib.hid (hcp6.arg HP.out.ok HP.out.nr HP.out.nt HP.out.nl)
            clear c3 hs2 hs c2
            have hkset := Lib.hid kset
            clear kset hcp6
            have HD := Lib.hid (fun w' (x : Ext w w') => cdigest_p _ p w' (HP.out.ext x))
            generalize hx : (p.ths.getD 0 []).getD j default = x at ko kk
            have HX := Lib.hid hx
            clear hx
            have hop2 := HP.out.ok (p.ths.getD 0 []) (getD_mem' p.ths (by rw [HM.out]; omega)) x (by rw [← HX.out]; exact getD_mem _ j (by rw [HL.out]; omega))
            by_cases hset : x.op = 1 ∧ x.k ≤ 63
            · obtain ⟨hs1, hs2⟩ := hset
              have hs3 : (x.op != 1) = false := by rw [hs1]; rfl
              have hs4 : ¬ (63 : Int) < (x.k : Int) := by omega
              go_wp2_with fail
              have hk64 : x.k ^^^ (y % 64) < 64 := Nat.xor_lt_two_pow (n := 6) (by omega) (by omega)
              have hkx : bits BinOp.xor .u64 (x.k : Int) ((y : Int) % 64) = ((x.k ^^^ (y % 64) : Nat) : Int) := by
                rw [show (y : Int) % 64 = ((y % 64 : Nat) : Int) by omega]
                exact bits_xor_u64_nat _ _ (by omega) (by omega)
              rw [hkx]
              have hq7 := hkset.out (x.k ^^^ (y % 64))
              have hds : decide (digB p = digB (setK p j (x.k ^^^ (y % 64)))) = decide (y % 64 = 0) := by
                rw [dig_set p j _ (by rw [HM.out]; omega) (by rw [HL.out]; omega) HWP.out (by rw [HX.out]; exact hs1) (by rw [HX.out]; omega) hk64, HX.out]
                exact decide_xor _ _
              have hok7 := setK_ok p j (x.k ^^^ (y % 64)) (by rw [HM.out]; omega) (by rw [HL.out]; omega) HP.out.ok (by omega)
              have hlen7 := setK_len p j (x.k ^^^ (y % 64)) (by rw [HM.out]; omega) HP.out.nl
              have hA7 := Lib.hid (hq7.arg hok7 HP.out.nr (by unfold setK; rw [List.length_set]; exact HP.out.nt) hlen7)
              have y7 : Ext w (w6.setCell ⟨hh, j * 6 + 5, none⟩ (.int .u64 ((x.k ^^^ (y % 64) : Nat) : Int))) := h6.ends.setCell (.inl (by have := HPB.out; have := HPB3.out; show w.heap.size ≤ hh; omega)) _
              have hrow : (w6.setCell ⟨hh, j * 6 + 5, none⟩ (.int .u64 ((x.k ^^^ (y % 64) : Nat) : Int))).heap[qb]? = _ := (heap_setCell_ne (fun e => hq5 e.symm) _).trans h6.blk
              have hrow2 : (w6.setCell ⟨hh, j * 6 + 5, none⟩ (.int .u64 ((x.k ^^^ (y % 64) : Nat) : Int))).heap[pb]? = _ := (heap_setCell_ne (by have := HPB3.out; omega) _).trans h6.swap.blk
              have HD6 := Lib.hid (fun w' (x : Ext (w6.setCell ⟨hh, j * 6 + 5, none⟩ _) w') => cdigest_p _ (setK p j _) w' (hA7.out.ext x))
              have hc : (((digB p : Nat) : Int) == ((digB (setK p j (x.k ^^^ (y % 64))) : Nat) : Int)) = decide (y % 64 = 0) := by
                rw [← hds]; exact beq_nat _ _
              have hc2 : ((y : Int) % 64 == 0) = decide (y % 64 = 0) := by
                rw [show (y : Int) % 64 = ((y % 64 : Nat) : Int) by omega]; exact beq_nat _ 0
              have hd := y7
              clear hq7 hds hok7 hlen7 hA7 hkset hkx hA6
              generalize digB (setK p j (x.k ^^^ (y % 64))) = dd2 at HD6 hc
              generalize digB p = dd at HD hc
              generalize decide (y % 64 = 0) = c at hc hc2
              generalize w6.setCell ⟨hh, j * 6 + 5, none⟩ (.int .u64 ((x.k ^^^ (y % 64) : Nat) : Int)) = w7 at hd y7 hrow hrow2 HD6 ⊢
              refine wp_region_after (by kernel_rfl) (by kernel_rfl) ?_
              go_big_quiet_want
              refine quiet_load_row _ _ rfl pb rfl 35 #[Value.slice A n ca, Value.slice (some ⟨bb, off, none⟩) m cb] (0, 0) _ hrow2 Try.underlying35 rfl (by kernel_rfl) ?_
              simp only [Act.put, List.setIfInBounds_toArray, List.set_cons_succ, List.set_cons_zero]
              go_big_quiet_on
              go_big_quiet_want
              go_big_quiet_op
              apply Exists.intro; refine ⟨fun _ => ?_, ?_⟩
              · (go_at_call 20; exact Calls.after (HD.out _ (hd.trans (After.ext _))))
              go_big_quiet_on
              go_big_quiet_want
              refine quiet_load_row _ _ rfl qb rfl 35 #[Value.slice A5 n c5, Value.slice (some ⟨g, 0, none⟩) m cap] (0, 0) _ hrow Try.underlying35 rfl (by kernel_rfl) ?_
              simp only [Act.put, List.setIfInBounds_toArray, List.set_cons_succ, List.set_cons_zero]
              go_big_quiet_on
              go_big_quiet_want
              go_big_quiet_op
              apply Exists.intro; refine ⟨fun _ => ?_, ?_⟩
              · (go_at_call 20; exact Calls.after (HD6.out _ (After.ext _)))
              go_big_quiet_on
              repeat (go_big_quiet_want; go_big_quiet_op; go_big_quiet_on)
              refine wpQuiet_nil ?_
              rintro _ ⟨r, rfl⟩
              go_wp2_with fail
              go_ret
              exact ⟨by cases c <;> simp, y7.trans r.ext⟩
            · have HD6 := Lib.hid (fun w' (x : Ext w6 w') => cdigest_p _ p w' (hA6.out.ext x))
              generalize digB p = dd at HD HD6
              have hdd : (((dd : Nat) : Int) == ((dd : Nat) : Int)) = true := by simp
              have hrow := h6.blk
              have hrow2 := h6.swap.blk
              by_cases hs1 : x.op = 1
              · have hs3 : (x.op != 1) = false := by rw [hs1]; rfl
                have hs4 : (63 : Int) < (x.k : Int) := by omega
                clear hset
                go_wp2_with fail
                have hd := h6.ends
                refine wp_region_after (by kernel_rfl) (by kernel_rfl) ?_
                go_big_quiet_want
                refine quiet_load_row _ _ rfl pb rfl 35 #[Value.slice A n ca, Value.slice (some ⟨bb, off, none⟩) m cb] (0, 0) _ hrow2 Try.underlying35 rfl (by kernel_rfl) ?_
                simp only [Act.put, List.setIfInBounds_toArray, List.set_cons_succ, List.set_cons_zero]
                go_big_quiet_on
                go_big_quiet_want
                go_big_quiet_op
                apply Exists.intro; refine ⟨fun _ => ?_, ?_⟩
                · (go_at_call 20; exact Calls.after (HD.out _ (hd.trans (After.ext _))))
                go_big_quiet_on
                go_big_quiet_want
                refine quiet_load_row _ _ rfl qb rfl 35 #[Value.slice A5 n c5, Value.slice (some ⟨g, 0, none⟩) m cap] (0, 0) _ hrow Try.underlying35 rfl (by kernel_rfl) ?_
                simp only [Act.put, List.setIfInBounds_toArray, List.set_cons_succ, List.set_cons_zero]
                go_big_quiet_on
                go_big_quiet_want
                go_big_quiet_op
                apply Exists.intro; refine ⟨fun _ => ?_, ?_⟩
                · (go_at_call 20; exact Calls.after (HD6.out _ (After.ext _)))
                go_big_quiet_on
                repeat (go_big_quiet_want; go_big_quiet_op; go_big_quiet_on)
                refine wpQuiet_nil ?_
                rintro _ ⟨r, rfl⟩
                go_wp2_with fail
                go_ret
                exact ⟨by simp, h6.ends.trans r.ext⟩
              · have hs3 : (x.op != 1) = true := by simp [hs1]
                clear hset hs1
                go_wp2_with fail
                have hd := h6.ends
                refine wp_region_after (by kernel_rfl) (by kernel_rfl) ?_
                go_big_quiet_want
                refine quiet_load_row _ _ rfl pb rfl 35 #[Value.slice A n ca, Value.slice (some ⟨bb, off, none⟩) m cb] (0, 0) _ hrow2 Try.underlying35 rfl (by kernel_rfl) ?_
                simp only [Act.put, List.setIfInBounds_toArray, List.set_cons_succ, List.set_cons_zero]
                go_big_quiet_on
                go_big_quiet_want
                go_big_quiet_op
                apply Exists.intro; refine ⟨fun _ => ?_, ?_⟩
                · (go_at_call 20; exact Calls.after (HD.out _ (hd.trans (After.ext _))))
                go_big_quiet_on
                go_big_quiet_want
                refine quiet_load_row _ _ rfl qb rfl 35 #[Value.slice A5 n c5, Value.slice (some ⟨g, 0, none⟩) m cap] (0, 0) _ hrow Try.underlying35 rfl (by kernel_rfl) ?_
                simp only [Act.put, List.setIfInBounds_toArray, List.set_cons_succ, List.set_cons_zero]
                go_big_quiet_on
                go_big_quiet_want
                go_big_quiet_op
                apply Exists.intro; refine ⟨fun _ => ?_, ?_⟩
                · (go_at_call 20; exact Calls.after (HD6.out _ (After.ext _)))
                go_big_quiet_on
                repeat (go_big_quiet_want; go_big_quiet_op; go_big_quiet_on)
                refine wpQuiet_nil ?_
                rintro _ ⟨r, rfl⟩
                go_wp2_with fail
                go_ret
                exact ⟨by simp, h6.ends.trans r.ext⟩
theorem codeDigests_walk (v : Value) (p : Prg) (at_ : Int) (y : Nat) (hat : -9223372036854775808 ≤ at_ ∧ at_ < 9223372036854775808) (hy : y < 256) (w : World) (hp : PArg w v p) :
    Calls Try.prog 7 #[v, .int .i64 at_, .int .u8 y] w fun e w' => e = .returned (.bool true) ∧ Ext w w' := by
  obtain ⟨A, B, ca, cb, rfl, _⟩ := hp.arg
  exact codeDigests_w A B ca cb _ _ p rfl rfl at_ y hat hy w hp
end Go.Proofs.Ytklkboibpglhjaa
