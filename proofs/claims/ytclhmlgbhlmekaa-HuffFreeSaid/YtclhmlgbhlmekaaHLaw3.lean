/- Layer 7's laws: HuffFree. -/
import Derived.Test.YtclhmlgbhlmekaaHWei
namespace Go.Proofs.Ytclhmlgbhlmekaa
open Go.RowKit
set_option linter.unusedVariables false
set_option linter.unusedSimpArgs false
set_option linter.unusedSectionVars false
set_option maxRecDepth 20000 in
set_option maxHeartbeats 4000000 in
theorem huffFree_walk (A : Option Addr) (ca : Nat) (l : List Nat) (a b : Nat) (ha : a < 256) (hb : b < 256) (w : World) (ra : ArgRow (repU .u64 18446744073709551616) 1 w A l.length l) (hpa : l.length ≤ 9223372036854775807) :
    Calls Try.prog 8 #[.slice A l.length ca, .int .u8 a, .int .u8 b] w fun e w' => e = .returned (.bool true) ∧ Ext w w' := by
  have HA := Lib.hid hawake_any
  by_cases h0 : l.length ≤ 60
  · have hal : AllLt l := fun i hi => ra.small i hi
    have hr := ra.nrow
    clear ra
    obtain ⟨m, hm⟩ : ∃ m, l.length = m := ⟨_, rfl⟩
    rw [hm] at hpa h0 ⊢
    have hn : ¬ (60 : Int) < (m : Int) := by omega
    obtain ⟨W, hW⟩ : ∃ W, W = weiF l m := ⟨_, rfl⟩
    have hWlt : ∀ i, W i < 18446744073709551616 := by rw [hW]; exact weiF_lt hal m (by omega)
    have HWe := Lib.hid (fun w (hr : NRow w A l) => weights_any A ca m l w hm (by omega) hr W hW)
    have HLn := Lib.hid (fun w => lengths_any W hWlt w)
    have hL8 := lenT_lt W hWlt
    have HC0 : Hid ((∀ i, i < 256 → lenT W i ≤ 56) → codE (lenT W) = 0) := Lib.hid (codE_lenT W hWlt)
    have HZ : Hid (lenT W a = 0 ↔ W a = 0) := Lib.hid (lenT_zero_iff W hWlt ha)
    generalize lenT W = L at *
    have HCo := Lib.hid (fun w => codes_any L (fun i _ => hL8 i) w)
    have hCl := codT_lt L
    have HFr : Hid (codE L = 0 → a ≠ b → 0 < L a → L a ≤ L b → codT L b / 2 ^ (L b - L a) ≠ codT L a) := Lib.hid (fun h1 h2 h3 h4 => codT_free h1 ha hb h2 h3 h4)
    generalize codT L = C at *
    clear hal hm hW hWlt
    go_enter Try.func8, Try.ntmps8
    go_wp2_with fail
    refine (HA.out w).mono ?_
    rintro _ w1 ⟨rfl, x1⟩
    have hr1 := hr.ext x1
    go_wp2_with fail
    refine (HWe.out w1 hr1).mono ?_
    rintro _ w2 ⟨rfl, x2⟩
    have h1 := ((St.start noB w).ext (x1.trans x2)).alloc (tabV .u64 (fun _ => 0)) 25
    clear hr hr1 HWe x1 x2
    have hz := zero64
    have hq := Lib.hid h1.blk
    obtain ⟨w3, hw3, h3⟩ := name_world (P := fun x => St noB w x _) (h1.row (tabV .u64 W))
    have HW3 := Lib.hid hw3
    have hq3 := Lib.hid h3.blk
    clear h1 hw3
    go_wp2_with (first
      | (with_reducible refine (show wpList _ _ _ _ _ (World.alloc _ _) from ?_); refine wpList_store_row rfl _ _ _ rfl w2.heap.size (tabV .u64 W) rfl rfl 25 (tabV .u64 (fun _ => 0)) hq.out (size64 _) (tabV_sizes _ _ _) (tabV_one _ _) ?_; rw [HW3.out])
      | (refine wpList_load_row rfl _ _ rfl w2.heap.size rfl 25 (tabV .u64 W) (0, 0) (.array 256 24) hq3.out Try.underlying25 rfl (size64 _) ?_))
    refine (HLn.out _).mono ?_
    rintro _ w4 ⟨rfl, x4⟩
    generalize w2.heap.size = wb at h3 ⊢
    clear hq HW3 hq3 HLn hz
    have h5 := (h3.ext x4).alloc (tabV .u8 (fun _ => 0)) 27
    have hz := zero8
    have hq := Lib.hid h5.blk
    obtain ⟨w5, hw5, h6⟩ := name_world (P := fun x => St noB w x _) (h5.row (tabV .u8 L))
    have HW5 := Lib.hid hw5
    have hq3 := Lib.hid h6.blk
    clear h5 hw5 x4 h3
    obtain ⟨T8, hT8⟩ : ∃ T8, T8 = tabV .u8 L := ⟨_, rfl⟩
    have hT0 : ∀ i, i < 256 → T8[i]? = some (.int .u8 (L i)) := fun i hi => by rw [hT8]; exact tabV_get _ _ i hi
    have HT8 := Lib.hid hT8
    clear hT8
    go_wp2_with (first
      | (with_reducible refine (show wpList _ _ _ _ _ (World.alloc _ _) from ?_); refine wpList_store_row rfl _ _ _ rfl w4.heap.size (tabV .u8 L) rfl rfl 27 (tabV .u8 (fun _ => 0)) hq.out (size8 _) (tabV_sizes _ _ _) (tabV_one _ _) ?_; rw [HW5.out])
      | (refine wpList_load_row rfl _ _ rfl w4.heap.size rfl 27 (tabV .u8 L) (0, 0) (.array 256 5) hq3.out Try.underlying27 rfl (size8 _) ?_))
    generalize w4.heap.size = lb at h6 ⊢
    rw [← HT8.out]
    clear hq HW5 hq3 hz
    go_loopw [26] (fun v26 wr => ∃ i : Nat, v26 = .int .i64 i ∧ i ≤ 256 ∧ Hid (∀ j, j < i → L j ≤ 56) ∧ wr = w5) (fun v26 _ => 256 - (intOf v26).toNat)
    case atStart => exact ⟨0, rfl, by omega, Lib.hid (fun j hj => by omega), rfl⟩
    case round =>
      obtain ⟨i, rfl, hi, HG, rfl⟩ := hrel
      by_cases hlt : i < 256
      · have hl1 : (i : Int) < 256 := by omega
        have hT1 := fun w => index8 T8 i _ hlt (hT0 i hlt) w
        by_cases hg : 56 < L i
        · have hg2 : (56 : Int) < (L i : Int) := by omega
          have HX := Lib.hid h6.ends
          clear hg
          generalize L i = x at hT1 hg2
          go_wp2_with fail
          go_ret
          exact ⟨rfl, HX.out⟩
        · have hg2 : ¬ (56 : Int) < (L i : Int) := by omega
          have HG2 : Hid (∀ j, j < i + 1 → L j ≤ 56) := Lib.hid (fun j hj => by
            by_cases e : j = i
            · subst e; omega
            · exact HG.out j (by omega))
          clear hg
          generalize L i = x at hT1 hg2
          go_wp2_with fail
          exact ⟨⟨i + 1, by go_num, by omega, HG2, trivial⟩, by simp only [intOf]; omega⟩
      · obtain rfl : i = 256 := by omega
        have hl1 : ¬ ((256 : Nat) : Int) < 256 := by omega
        have hce := HC0.out (fun j hj => HG.out j hj)
        rw [hce] at HCo
        have HFr2 : Hid (a ≠ b → 0 < L a → L a ≤ L b → C b / 2 ^ (L b - L a) ≠ C a) := Lib.hid (HFr.out hce)
        have hb56 := HG.out b hb
        have hq3 := Lib.hid h6.blk
        clear hT0 HC0 HFr HG hce
        rw [HT8.out]
        clear HT8
        go_wp2_with (refine wpList_load_row rfl _ _ rfl lb rfl 27 (tabV .u8 L) (0, 0) (.array 256 5) hq3.out Try.underlying27 rfl (size8 _) ?_)
        refine (HCo.out _).mono ?_
        rintro _ w6 ⟨rfl, x6⟩
        have h7 := (h6.ext x6).alloc (tabV .u64 (fun _ => 0)) 25
        have hz := zero64
        have hq := Lib.hid h7.blk
        obtain ⟨w7, hw7, h8⟩ := name_world (P := fun x => St noB w x _) (h7.row (tabV .u64 C))
        have HW7 := Lib.hid hw7
        clear h7 hw7 x6 h6 hq3
        go_wp2_with (with_reducible refine (show wpList _ _ _ _ _ (World.alloc _ _) from ?_); refine wpList_store_row rfl _ _ _ rfl w6.heap.size (tabV .u64 C) rfl rfl 25 (tabV .u64 (fun _ => 0)) hq.out (size64 _) (tabV_sizes _ _ _) (tabV_one _ _) ?_; rw [HW7.out])
        generalize w6.heap.size = cb at h8 ⊢
        clear hq HW7 hz HCo
        have pca := cell_of_heap h8.blk a
        have pcb := cell_of_heap h8.blk b
        have pla := cell_of_heap (h8.pull 1).blk a
        have plb := cell_of_heap (h8.pull 1).blk b
        have pwa := cell_of_heap (h8.pull 2).blk a
        rw [tabV_get _ _ _ (by omega)] at pca pcb pla plb pwa
        have HX := Lib.hid h8.ends
        have hla := hL8 a
        have hlb := hL8 b
        have hcb := hCl b
        clear h8 hL8 hCl
        generalize C a = xa at *
        generalize C b = xb at *
        generalize W a = wa at *
        generalize L a = na at *
        generalize L b = nb at *
        have ha9 : (a : Int) < 256 := by omega
        have hb9 : (b : Int) < 256 := by omega
        by_cases hz : na = 0
        · have hwz := HZ.out.1 hz
          subst hz hwz
          have qla := fun y : After w7 => (After.ext y).cell pla
          have qwa := fun y : After w7 => (After.ext y).cell pwa
          go_wp2_with fail
          (refine wp_region_after (by kernel_rfl) (by kernel_rfl) ?_; (repeat (first | go_big_quiet_skip | (go_big_quiet_want; first | (fail; simp only [Act.put, List.setIfInBounds_toArray, List.set_cons_succ, List.set_cons_zero]; go_big_quiet_on) | (go_big_quiet_op; first | go_big_quiet_on | (apply Exists.intro; refine ⟨fun _ => ?_, ?_⟩; (· (fail)); go_big_quiet_on))))); refine wpQuiet_nil ?_; rintro _ ⟨y, rfl⟩)
          have YE := y.ext
          have pla2 := Ext.cell YE pla
          have qla2 := fun z : After y.w => (After.ext z).cell pla2
          by_cases hab : a = b
          · subst hab
            go_wp2_with fail
            (refine wp_region_after (by kernel_rfl) (by kernel_rfl) ?_; (repeat (first | go_big_quiet_skip | (go_big_quiet_want; first | (fail; simp only [Act.put, List.setIfInBounds_toArray, List.set_cons_succ, List.set_cons_zero]; go_big_quiet_on) | (go_big_quiet_op; first | go_big_quiet_on | (apply Exists.intro; refine ⟨fun _ => ?_, ?_⟩; (· (fail)); go_big_quiet_on))))); refine wpQuiet_nil ?_; rintro _ ⟨z, rfl⟩)
            go_wp2_with fail
            go_ret
            exact ⟨rfl, (HX.out.trans YE).trans z.ext⟩
          · have hab2 : ((a : Int) == (b : Int)) = false := by rw [beq_eq_false_iff_ne]; omega
            go_wp2_with fail
            (refine wp_region_after (by kernel_rfl) (by kernel_rfl) ?_; (repeat (first | go_big_quiet_skip | (go_big_quiet_want; first | (fail; simp only [Act.put, List.setIfInBounds_toArray, List.set_cons_succ, List.set_cons_zero]; go_big_quiet_on) | (go_big_quiet_op; first | go_big_quiet_on | (apply Exists.intro; refine ⟨fun _ => ?_, ?_⟩; (· (fail)); go_big_quiet_on))))); refine wpQuiet_nil ?_; rintro _ ⟨z, rfl⟩)
            go_wp2_with fail
            go_ret
            exact ⟨rfl, (HX.out.trans YE).trans z.ext⟩
        · have hwz : ¬ wa = 0 := fun e => hz (HZ.out.2 e)
          have hz2 : ((na : Int) == 0) = false := by rw [beq_eq_false_iff_ne]; omega
          have hwz2 : ((wa : Int) == 0) = false := by rw [beq_eq_false_iff_ne]; omega
          have qla := fun y : After w7 => (After.ext y).cell pla
          have qwa := fun y : After w7 => (After.ext y).cell pwa
          clear hwz
          go_wp2_with fail
          (refine wp_region_after (by kernel_rfl) (by kernel_rfl) ?_; (repeat (first | go_big_quiet_skip | (go_big_quiet_want; first | (fail; simp only [Act.put, List.setIfInBounds_toArray, List.set_cons_succ, List.set_cons_zero]; go_big_quiet_on) | (go_big_quiet_op; first | go_big_quiet_on | (apply Exists.intro; refine ⟨fun _ => ?_, ?_⟩; (· (fail)); go_big_quiet_on))))); refine wpQuiet_nil ?_; rintro _ ⟨y, rfl⟩)
          have YE := y.ext
          have pla2 := Ext.cell YE pla
          have qla2 := fun z : After y.w => (After.ext z).cell pla2
          have plb2 := Ext.cell YE plb
          have qlb2 := fun z : After y.w => (After.ext z).cell plb2
          by_cases hab : a = b
          · subst hab
            go_wp2_with fail
            (refine wp_region_after (by kernel_rfl) (by kernel_rfl) ?_; (repeat (first | go_big_quiet_skip | (go_big_quiet_want; first | (fail; simp only [Act.put, List.setIfInBounds_toArray, List.set_cons_succ, List.set_cons_zero]; go_big_quiet_on) | (go_big_quiet_op; first | go_big_quiet_on | (apply Exists.intro; refine ⟨fun _ => ?_, ?_⟩; (· (fail)); go_big_quiet_on))))); refine wpQuiet_nil ?_; rintro _ ⟨z, rfl⟩)
            go_wp2_with fail
            go_ret
            exact ⟨rfl, (HX.out.trans YE).trans z.ext⟩
          · have hab2 : ((a : Int) == (b : Int)) = false := by rw [beq_eq_false_iff_ne]; omega
            by_cases hnb : nb = 0
            · subst hnb
              go_wp2_with fail
              (refine wp_region_after (by kernel_rfl) (by kernel_rfl) ?_; (repeat (first | go_big_quiet_skip | (go_big_quiet_want; first | (fail; simp only [Act.put, List.setIfInBounds_toArray, List.set_cons_succ, List.set_cons_zero]; go_big_quiet_on) | (go_big_quiet_op; first | go_big_quiet_on | (apply Exists.intro; refine ⟨fun _ => ?_, ?_⟩; (· (fail)); go_big_quiet_on))))); refine wpQuiet_nil ?_; rintro _ ⟨z, rfl⟩)
              go_wp2_with fail
              go_ret
              exact ⟨rfl, (HX.out.trans YE).trans z.ext⟩
            · have hnb2 : ((nb : Int) == 0) = false := by rw [beq_eq_false_iff_ne]; omega
              by_cases hgt : nb < na
              · have hgt2 : decide ((nb : Int) < (na : Int)) = true := by rw [decide_eq_true_eq]; omega
                go_wp2_with fail
                (refine wp_region_after (by kernel_rfl) (by kernel_rfl) ?_; (repeat (first | go_big_quiet_skip | (go_big_quiet_want; first | (fail; simp only [Act.put, List.setIfInBounds_toArray, List.set_cons_succ, List.set_cons_zero]; go_big_quiet_on) | (go_big_quiet_op; first | go_big_quiet_on | (apply Exists.intro; refine ⟨fun _ => ?_, ?_⟩; (· (fail)); go_big_quiet_on))))); refine wpQuiet_nil ?_; rintro _ ⟨z, rfl⟩)
                go_wp2_with fail
                go_ret
                exact ⟨rfl, (HX.out.trans YE).trans z.ext⟩
              · have hgt2 : decide ((nb : Int) < (na : Int)) = false := by rw [decide_eq_false_iff_not]; omega
                have hne := HFr2.out hab (by omega) (by omega)
                go_wp2_with fail
                (refine wp_region_after (by kernel_rfl) (by kernel_rfl) ?_; (repeat (first | go_big_quiet_skip | (go_big_quiet_want; first | (fail; simp only [Act.put, List.setIfInBounds_toArray, List.set_cons_succ, List.set_cons_zero]; go_big_quiet_on) | (go_big_quiet_op; first | go_big_quiet_on | (apply Exists.intro; refine ⟨fun _ => ?_, ?_⟩; (· (fail)); go_big_quiet_on))))); refine wpQuiet_nil ?_; rintro _ ⟨z, rfl⟩)
                have ZE : Ext w7 z.w := YE.trans z.ext
                have pla3 := Ext.cell ZE pla
                have plb3 := Ext.cell ZE plb
                have pca3 := Ext.cell ZE pca
                have pcb3 := Ext.cell ZE pcb
                have qla3 := fun v : After z.w => (After.ext v).cell pla3
                have qlb3 := fun v : After z.w => (After.ext v).cell plb3
                have qca3 := fun v : After z.w => (After.ext v).cell pca3
                have qcb3 := fun v : After z.w => (After.ext v).cell pcb3
                obtain ⟨d, hd⟩ : ∃ d, nb - na = d := ⟨_, rfl⟩
                have hw8 : IntKind.u8.wrap ((nb : Int) - (na : Int)) = (d : Int) := by rw [IntKind.wrap_u8]; omega
                rw [hd] at hne
                have hmin : min d 64 = d := by omega
                have hne2 : ((xb : Int) / 2 ^ d != (xa : Int)) = true := by
                  have e : ((xb : Int) / 2 ^ d) = ((xb / 2 ^ d : Nat) : Int) := by rw [Int.natCast_ediv, Int.natCast_pow]; rfl
                  rw [e, bne_iff_ne]; omega
                clear hd hne
                go_wp2_with fail
                (refine wp_region_after (by kernel_rfl) (by kernel_rfl) ?_; (repeat (first | go_big_quiet_skip | (go_big_quiet_want; first | (fail; simp only [Act.put, List.setIfInBounds_toArray, List.set_cons_succ, List.set_cons_zero]; go_big_quiet_on) | (go_big_quiet_op; first | go_big_quiet_on | (apply Exists.intro; refine ⟨fun _ => ?_, ?_⟩; (· (fail)); go_big_quiet_on))))); refine wpQuiet_nil ?_; rintro _ ⟨v, rfl⟩)
                go_wp2_with fail
                go_ret
                exact ⟨rfl, (HX.out.trans ZE).trans v.ext⟩
  · have hn : (60 : Int) < (l.length : Int) := by omega
    clear h0 ra
    generalize l.length = m at *
    go_enter Try.func8, Try.ntmps8
    go_wp2_with fail
    refine (HA.out w).mono ?_
    rintro _ w1 ⟨rfl, x1⟩
    go_wp2_with fail
    refine (HA.out w1).mono ?_
    rintro _ w2 ⟨rfl, x2⟩
    go_wp2_with fail
    go_ret
    exact ⟨rfl, x1.trans x2⟩
end Go.Proofs.Ytclhmlgbhlmekaa
