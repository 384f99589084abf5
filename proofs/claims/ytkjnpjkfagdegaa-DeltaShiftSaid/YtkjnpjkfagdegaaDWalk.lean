/- Layer 3: steps and sums. -/
import Derived.Test.YtkjnpjkfagdegaaDZig
namespace Go.Proofs.Ytkjnpjkfagdegaa
open Go.RowKit
set_option linter.unusedVariables false
set_option linter.unusedSimpArgs false
section
variable {S : Nat → Prop} {W w : World} {M : List Thing}
theorem run_make_nums (n : Nat) (hn : n ≤ 1000000) (w : World) : (Instr.makeSlice 27 (.int .i64 (n : Int)) (.int .i64 (n : Int))).run Try.prog w = .ok (.slice (some ⟨w.heap.size, 0, none⟩) n n) (w.alloc (.cells (numsV (List.replicate n 0)).toArray 22)) := by
  obtain ⟨i0, hi, hz0, hz1, hz2⟩ := info_parts u64_info
  rw [run_make w 27 22 i0 _ Try.underlying27 hi hz0 .i64 .i64 n n (by omega) (by omega) (by rw [hz2]; omega) (by omega), hz1]
  simp only [Value.cells, Nat.mul_one, Int.toNat_natCast, zeros]
theorem zig_dl_any (n last : Nat) (h : last < 18446744073709551616) (hn : n < 18446744073709551616) (w : World) :
    Calls Try.prog 9 #[.int .i64 (wrap64 (IntKind.u64.wrap ((n : Int) - last)))] w fun e w' => e = .returned (.int .u64 (dl last n : Nat)) ∧ w = w' := by
  have e : zigI (wrap64 (IntKind.u64.wrap ((n : Int) - last))) = dl last n := by
    apply dl_zig last n h
    rw [IntKind.wrap_u64]; unfold wrap64
    split <;> omega
  rw [← e]
  refine zig_any _ ?_ w
  unfold wrap64; omega
set_option maxRecDepth 20000 in
set_option maxHeartbeats 4000000 in
theorem deltas_st (h : St S W w M) (A : Option Addr) (ca : Nat) (l : List Nat) (hl : l.length ≤ 1000000) (hr : NRow w A l) (ha : AllLt l) :
    Calls Try.prog 12 #[.slice A l.length ca] w fun e w' => ∃ g, e = .returned (.slice (some ⟨g, 0, none⟩) l.length l.length) ∧ St S W w' (nlT (.slice (some ⟨g, 0, none⟩) l.length l.length) (deltas l) :: M) ∧ Ext w w' := by
  have hmk := run_make_nums l.length hl
  obtain ⟨m, hm⟩ : ∃ m, m = l.length := ⟨_, rfl⟩
  have ha2 : ∀ i, i < m → l.getD i 0 < 18446744073709551616 := fun i hi => ha i (by omega)
  have hr2 : ∀ i, i < m → ∃ b off, A = some ⟨b, off, none⟩ ∧ w.cell? ⟨b, off + i, none⟩ = some (.int .u64 (l.getD i 0 : Nat)) := fun i hi => hr i (by omega)
  have HD := Lib.hid (show deltas l = mapTo (stepAt l) m m by rw [mapTo_all, hm]; rfl)
  rw [← hm] at hmk hl ⊢
  have HM := Lib.hid hm
  clear hm ha hr
  go_enter Try.func12, Try.ntmps12
  go_wp2_with fail
  have h2 := h.made 22 1 m m (numsV (List.replicate m 0)).toArray (Nat.le_refl _) (by unfold maxLen; omega) (by simp [numsV])
  have g2 := (St.start noB w).made 22 1 m m (numsV (List.replicate m 0)).toArray (Nat.le_refl _) (by unfold maxLen; omega) (by simp [numsV])
  simp only [Nat.mul_one, List.take_toArray] at h2 g2
  clear hmk h
  generalize w.alloc (.cells (numsV (List.replicate m 0)).toArray 22) = w1 at h2 g2 ⊢
  generalize w.heap.size = x at h2 g2 ⊢
  go_loopw [4, 12] (fun vl vi wr => ∃ i : Nat, i ≤ m ∧ vl = .int .u64 (prev l i : Nat) ∧ vi = .int .i64 i ∧ St S W wr (ownT 22 1 (.slice (some ⟨x, 0, none⟩) m m) m (numsV (mapTo (stepAt l) i m)) :: M) ∧ St noB w wr [ownT 22 1 (.slice (some ⟨x, 0, none⟩) m m) m (numsV (mapTo (stepAt l) i m))]) (fun _ vi _ => m - (intOf vi).toNat)
  case atStart => exact ⟨0, by omega, rfl, rfl, by rw [mapTo_zero]; simpa [numsV] using h2, by rw [mapTo_zero]; simpa [numsV] using g2⟩
  case round =>
    clear h2 g2
    obtain ⟨i, hi, rfl, rfl, h, g⟩ := hrel
    by_cases hlt : i < m
    · obtain ⟨b, off, rfl, hc⟩ := hr2 i hlt
      have hc2 := g.ends.cell hc
      have hb := ha2 i hlt
      have hp : prev l i < 18446744073709551616 := by
        cases i with
        | zero => simp [prev]
        | succ i => rw [prev_succ]; exact ha2 i (by omega)
      have HS := Lib.hid (mapTo_set (stepAt l) i m hlt)
      have HP := Lib.hid (prev_succ l i)
      have kc := h.own.cell i (by omega)
      rw [numsV_get _ _ (by rw [mapTo_len _ _ _ hi]; exact hlt)] at kc
      have kf := h.own.free i
      generalize (mapTo (stepAt l) i m).getD i 0 = old at kc
      have HSA := Lib.hid (show stepAt l i = dl (prev l i) (l.getD i 0) from rfl)
      generalize prev l i = last at hp HSA ⊢
      generalize l.getD i 0 = n at hb hc hc2 HSA HP
      clear hc ha2 hr2
      have HZ := Lib.hid (zig_dl_any n last hp hb)
      rw [← HSA.out] at HZ
      have h5 := h.stored i (.int .u64 (stepAt l i : Nat))
      have g5 := g.stored i (.int .u64 (stepAt l i : Nat))
      rw [numsV_set, HS.out] at h5 g5
      generalize stepAt l i = d at HZ h5 g5
      go_wp2_with (go_at_call 9; refine (HZ.out _).mono ?_; rintro e w3 ⟨rfl, rfl⟩)
      go_roundw
      case rel => first | exact ⟨i + 1, by omega, by rw [HP.out], by go_num, h5, g5⟩ | ((repeat apply Exists.intro); exact ⟨⟨i + 1, by omega, by rw [HP.out], by go_num, h5, g5⟩, rfl⟩)
      case measure => simp [intOf]; omega
    · obtain rfl : i = m := by omega
      go_wp2_with fail
      go_ret
      refine ⟨x, rfl, ?_, g.ends⟩
      rw [HD.out]
      unfold nlT
      rw [mapTo_len _ _ _ (Nat.le_refl _)]
      exact h
theorem sum_eq (last u : Nat) (h : last < 18446744073709551616) (hu : u < 18446744073709551616) : IntKind.u64.wrap ((last : Int) + IntKind.u64.wrap (zagI u)) = ((sm last u : Nat) : Int) := by
  rw [IntKind.wrap_u64, IntKind.wrap_u64]
  unfold zagI sm
  split <;> omega
set_option maxRecDepth 20000 in
set_option maxHeartbeats 4000000 in
theorem sums_st (h : St S W w M) (A : Option Addr) (ca : Nat) (l : List Nat) (hl : l.length ≤ 1000000) (hr : NRow w A l) (ha : AllLt l) :
    Calls Try.prog 13 #[.slice A l.length ca] w fun e w' => ∃ g, e = .returned (.slice (some ⟨g, 0, none⟩) l.length l.length) ∧ St S W w' (nlT (.slice (some ⟨g, 0, none⟩) l.length l.length) (sums l) :: M) ∧ Ext w w' := by
  have hmk := run_make_nums l.length hl
  obtain ⟨m, hm⟩ : ∃ m, m = l.length := ⟨_, rfl⟩
  have ha2 : ∀ i, i < m → l.getD i 0 < 18446744073709551616 := fun i hi => ha i (by omega)
  have hr2 : ∀ i, i < m → ∃ b off, A = some ⟨b, off, none⟩ ∧ w.cell? ⟨b, off + i, none⟩ = some (.int .u64 (l.getD i 0 : Nat)) := fun i hi => hr i (by omega)
  have HD := Lib.hid (show sums l = mapTo (fun i => sumTo l (i + 1)) m m by rw [mapTo_all, hm]; rfl)
  rw [← hm] at hmk hl ⊢
  have HM := Lib.hid hm
  clear hm ha hr
  go_enter Try.func13, Try.ntmps13
  go_wp2_with fail
  have h2 := h.made 22 1 m m (numsV (List.replicate m 0)).toArray (Nat.le_refl _) (by unfold maxLen; omega) (by simp [numsV])
  have g2 := (St.start noB w).made 22 1 m m (numsV (List.replicate m 0)).toArray (Nat.le_refl _) (by unfold maxLen; omega) (by simp [numsV])
  simp only [Nat.mul_one, List.take_toArray] at h2 g2
  clear hmk h
  generalize w.alloc (.cells (numsV (List.replicate m 0)).toArray 22) = w1 at h2 g2 ⊢
  generalize w.heap.size = x at h2 g2 ⊢
  go_loopw [4, 12] (fun vl vi wr => ∃ i : Nat, i ≤ m ∧ vl = .int .u64 (sumTo l i : Nat) ∧ vi = .int .i64 i ∧ St S W wr (ownT 22 1 (.slice (some ⟨x, 0, none⟩) m m) m (numsV (mapTo (fun i => sumTo l (i + 1)) i m)) :: M) ∧ St noB w wr [ownT 22 1 (.slice (some ⟨x, 0, none⟩) m m) m (numsV (mapTo (fun i => sumTo l (i + 1)) i m))]) (fun _ vi _ => m - (intOf vi).toNat)
  case atStart => exact ⟨0, by omega, rfl, rfl, by rw [mapTo_zero]; simpa [numsV] using h2, by rw [mapTo_zero]; simpa [numsV] using g2⟩
  case round =>
    clear h2 g2
    obtain ⟨i, hi, rfl, rfl, h, g⟩ := hrel
    by_cases hlt : i < m
    · obtain ⟨b, off, rfl, hc⟩ := hr2 i hlt
      have hc2 := g.ends.cell hc
      have hb := ha2 i hlt
      have hp := sumTo_lt l i
      have HS := Lib.hid (mapTo_set (fun i => sumTo l (i + 1)) i m hlt)
      have kc := h.own.cell i (by omega)
      rw [numsV_get _ _ (by rw [mapTo_len _ _ _ hi]; exact hlt)] at kc
      have kf := h.own.free i
      generalize (mapTo (fun i => sumTo l (i + 1)) i m).getD i 0 = old at kc
      have HSA := Lib.hid (sum_eq (sumTo l i) (l.getD i 0) hp hb)
      change Hid (_ = ((sumTo l (i + 1) : Nat) : Int)) at HSA
      generalize sumTo l i = last at hp HSA ⊢
      generalize l.getD i 0 = n at hb hc hc2 HSA
      clear hc ha2 hr2
      have HZ := Lib.hid (zag_any n hb)
      have h5 := h.stored i (.int .u64 (sumTo l (i + 1) : Nat))
      have g5 := g.stored i (.int .u64 (sumTo l (i + 1) : Nat))
      rw [numsV_set, HS.out] at h5 g5
      have heq := HSA.out
      obtain ⟨d, hd⟩ : ∃ d, d = sumTo l (i + 1) := ⟨_, rfl⟩
      have HDd := Lib.hid hd
      rw [← hd] at heq h5 g5
      clear hd
      go_wp2_with (go_at_call 11; refine (HZ.out _).mono ?_; rintro e w3 ⟨rfl, rfl⟩)
      go_roundw
      case rel => first | exact ⟨i + 1, by omega, by rw [HDd.out], by go_num, h5, g5⟩ | ((repeat apply Exists.intro); exact ⟨⟨i + 1, by omega, by rw [HDd.out], by go_num, h5, g5⟩, rfl⟩)
      case measure => simp [intOf]; omega
    · obtain rfl : i = m := by omega
      go_wp2_with fail
      go_ret
      refine ⟨x, rfl, ?_, g.ends⟩
      rw [HD.out]
      unfold nlT
      rw [mapTo_len _ _ _ (Nat.le_refl _)]
      exact h
theorem step_up (last n : Nat) (h : last < 18446744073709551616) (hn : n < 18446744073709551616) (hs : IntKind.u64.wrap ((n : Int) - last) < 9223372036854775808) :
    IntKind.u64.wrap (2 * IntKind.u64.wrap ((n : Int) - last)) = (dl last n : Nat) := by
  rw [IntKind.wrap_u64] at hs
  rw [IntKind.wrap_u64, IntKind.wrap_u64]
  unfold dl; split <;> omega
theorem step_down (last n : Nat) (h : last < 18446744073709551616) (hn : n < 18446744073709551616) (hs : ¬ IntKind.u64.wrap ((n : Int) - last) < 9223372036854775808) :
    IntKind.u64.wrap (IntKind.u64.wrap (2 * IntKind.u64.wrap (IntKind.u64.wrap ((last : Int) - n) - 1)) + 1) = (dl last n : Nat) := by
  rw [IntKind.wrap_u64] at hs
  simp only [IntKind.wrap_u64]
  unfold dl; split <;> omega
set_option maxRecDepth 20000 in
set_option maxHeartbeats 4000000 in
theorem rdeltas_st (h : St S W w M) (A : Option Addr) (ca : Nat) (l : List Nat) (hl : l.length ≤ 1000000) (hr : NRow w A l) (ha : AllLt l) :
    Calls Try.prog 15 #[.slice A l.length ca] w fun e w' => ∃ v, e = .returned v ∧ St S W w' (nlT v (deltas l) :: M) ∧ Ext w w' := by
  obtain ⟨m, hm⟩ : ∃ m, m = l.length := ⟨_, rfl⟩
  have ha2 : ∀ i, i < m → l.getD i 0 < 18446744073709551616 := fun i hi => ha i (by omega)
  have hr2 : ∀ i, i < m → ∃ b off, A = some ⟨b, off, none⟩ ∧ w.cell? ⟨b, off + i, none⟩ = some (.int .u64 (l.getD i 0 : Nat)) := fun i hi => hr i (by omega)
  have HD := Lib.hid (show deltas l = (List.range m).map (stepAt l) by rw [hm]; rfl)
  rw [← hm] at hl ⊢
  clear hm ha hr
  have h2 := h.nilOwn 22 1
  have g2 := (St.start noB w).nilOwn 22 1
  clear h
  go_enter Try.func15, Try.ntmps15
  go_wp2_with fail
  go_loopw [3, 4, 5] (fun vo vl vi wr => ∃ i : Nat, ∃ v, i ≤ m ∧ vo = v ∧ vl = .int .u64 (prev l i : Nat) ∧ vi = .int .i64 i ∧ St S W wr (ownT 22 1 v i (numsV ((List.range i).map (stepAt l))) :: M) ∧ St noB w wr [ownT 22 1 v i (numsV ((List.range i).map (stepAt l)))]) (fun _ _ vi _ => m - (intOf vi).toNat)
  case atStart => exact ⟨0, _, by omega, rfl, rfl, rfl, h2, g2⟩
  case round =>
    clear h2 g2
    obtain ⟨i, v, hi, rfl, rfl, rfl, h, g⟩ := hrel
    obtain ⟨A3, c3, rfl⟩ := h.own.form
    by_cases hlt : i < m
    · obtain ⟨b, off, rfl, hc⟩ := hr2 i hlt
      have hc2 := g.ends.cell hc
      have hb := ha2 i hlt
      have hp : prev l i < 18446744073709551616 := by
        cases i with
        | zero => simp [prev]
        | succ i => rw [prev_succ]; exact ha2 i (by omega)
      have HP := Lib.hid (prev_succ l i)
      have HSA := Lib.hid (show stepAt l i = dl (prev l i) (l.getD i 0) from rfl)
      have HR := Lib.hid (show (List.range (i + 1)).map (stepAt l) = (List.range i).map (stepAt l) ++ [stepAt l i] by rw [List.range_succ, List.map_append]; rfl)
      generalize prev l i = last at hp HSA ⊢
      generalize l.getD i 0 = n at hb hc hc2 HSA HP
      have HC := Lib.hid hc
      clear hc ha2 hr2
      have hli : (i : Int) < (m : Int) := by omega
      have hl0 : (0 : Int) ≤ (i : Int) := by omega
      have ka1 := fun a : After wr => (After.ext a).cell hc2
      clear hc2
      go_wp2_with fail
      (refine wp_region_after (by kernel_rfl) (by kernel_rfl) ?_; (repeat (first | go_big_quiet_skip | (go_big_quiet_want; first | (fail; simp only [Act.put, List.setIfInBounds_toArray, List.set_cons_succ, List.set_cons_zero]; go_big_quiet_on) | (go_big_quiet_op; first | go_big_quiet_on | (apply Exists.intro; refine ⟨fun _ => ?_, ?_⟩; (· (fail)); go_big_quiet_on))))); refine wpQuiet_nil ?_; rintro _ ⟨y, rfl⟩)
      have h5 := h.ext y.ext
      have g5 := g.ext y.ext
      have hc3 := ka1 y
      clear ka1 h g

      by_cases hsm : IntKind.u64.wrap ((n : Int) - last) < 9223372036854775808
      · have e1 := Lib.hid (step_up last n hp hb hsm)
        go_wp2_with (at_builtin; refine wpList_push2 rfl _ _ _ rfl 22 (.int .u64 0) 1 8 Try.underlying27 u64_info rfl (by decide) h5 g5 rfl rfl rfl (by intro u hu; simp at hu; subst hu; rfl) (by unfold maxLen; omega) (by omega) ?_; intro A' c' w6 h6 g6; have hc6 := g6.ends.cell HC.out)
        have h7 : St S W w6 (ownT 22 1 (.slice A' (i + 1) c') (i + 1) (numsV ((List.range (i + 1)).map (stepAt l))) :: M) := by
          rw [HR.out, numsV_append, HSA.out]; rw [e1.out] at h6; exact h6
        have g7 : St noB w w6 [ownT 22 1 (.slice A' (i + 1) c') (i + 1) (numsV ((List.range (i + 1)).map (stepAt l)))] := by
          rw [HR.out, numsV_append, HSA.out]; rw [e1.out] at g6; exact g6
        go_roundw
        case rel => first | exact ⟨i + 1, _, by omega, rfl, by rw [HP.out], by go_num, h7, g7⟩ | ((repeat apply Exists.intro); exact ⟨⟨i + 1, _, by omega, rfl, by rw [HP.out], by go_num, h7, g7⟩, rfl⟩)
        case measure => simp [intOf]; omega
      · have e1 := Lib.hid (step_down last n hp hb hsm)
        go_wp2_with (at_builtin; refine wpList_push2 rfl _ _ _ rfl 22 (.int .u64 0) 1 8 Try.underlying27 u64_info rfl (by decide) h5 g5 rfl rfl rfl (by intro u hu; simp at hu; subst hu; rfl) (by unfold maxLen; omega) (by omega) ?_; intro A' c' w6 h6 g6; have hc6 := g6.ends.cell HC.out)
        have h7 : St S W w6 (ownT 22 1 (.slice A' (i + 1) c') (i + 1) (numsV ((List.range (i + 1)).map (stepAt l))) :: M) := by
          rw [HR.out, numsV_append, HSA.out]; rw [e1.out] at h6; exact h6
        have g7 : St noB w w6 [ownT 22 1 (.slice A' (i + 1) c') (i + 1) (numsV ((List.range (i + 1)).map (stepAt l)))] := by
          rw [HR.out, numsV_append, HSA.out]; rw [e1.out] at g6; exact g6
        go_roundw
        case rel => first | exact ⟨i + 1, _, by omega, rfl, by rw [HP.out], by go_num, h7, g7⟩ | ((repeat apply Exists.intro); exact ⟨⟨i + 1, _, by omega, rfl, by rw [HP.out], by go_num, h7, g7⟩, rfl⟩)
        case measure => simp [intOf]; omega
    · obtain rfl : i = m := by omega
      go_wp2_with fail
      go_ret
      refine ⟨_, rfl, ?_, g.ends⟩
      rw [HD.out]
      unfold nlT
      rw [List.length_map, List.length_range]
      exact h
theorem sum_even (last u : Nat) (h : last < 18446744073709551616) (hu : u < 18446744073709551616) (h2 : u % 2 = 0) : IntKind.u64.wrap ((last : Int) + (u : Int) / 2) = ((sm last u : Nat) : Int) := by
  rw [IntKind.wrap_u64]; unfold sm; split <;> omega
theorem sum_odd (last u : Nat) (h : last < 18446744073709551616) (hu : u < 18446744073709551616) (h2 : ¬ u % 2 = 0) : IntKind.u64.wrap (IntKind.u64.wrap ((last : Int) - (u : Int) / 2) - 1) = ((sm last u : Nat) : Int) := by
  rw [IntKind.wrap_u64, IntKind.wrap_u64]; unfold sm; split <;> omega
set_option maxRecDepth 20000 in
set_option maxHeartbeats 4000000 in
theorem rsums_st (h : St S W w M) (A : Option Addr) (ca : Nat) (l : List Nat) (hl : l.length ≤ 1000000) (hr : NRow w A l) (ha : AllLt l) :
    Calls Try.prog 16 #[.slice A l.length ca] w fun e w' => ∃ v, e = .returned v ∧ St S W w' (nlT v (sums l) :: M) ∧ Ext w w' := by
  obtain ⟨m, hm⟩ : ∃ m, m = l.length := ⟨_, rfl⟩
  have ha2 : ∀ i, i < m → l.getD i 0 < 18446744073709551616 := fun i hi => ha i (by omega)
  have hr2 : ∀ i, i < m → ∃ b off, A = some ⟨b, off, none⟩ ∧ w.cell? ⟨b, off + i, none⟩ = some (.int .u64 (l.getD i 0 : Nat)) := fun i hi => hr i (by omega)
  have HD := Lib.hid (show sums l = (List.range m).map (fun i => sumTo l (i + 1)) by rw [hm]; rfl)
  rw [← hm] at hl ⊢
  clear hm ha hr
  have h2 := h.nilOwn 22 1
  have g2 := (St.start noB w).nilOwn 22 1
  clear h
  go_enter Try.func16, Try.ntmps16
  go_wp2_with fail
  go_loopw [3, 4, 5] (fun vo vl vi wr => ∃ i : Nat, ∃ v, i ≤ m ∧ vo = v ∧ vl = .int .u64 (sumTo l i : Nat) ∧ vi = .int .i64 i ∧ St S W wr (ownT 22 1 v i (numsV ((List.range i).map (fun i => sumTo l (i + 1)))) :: M) ∧ St noB w wr [ownT 22 1 v i (numsV ((List.range i).map (fun i => sumTo l (i + 1))))]) (fun _ _ vi _ => m - (intOf vi).toNat)
  case atStart => exact ⟨0, _, by omega, rfl, rfl, rfl, h2, g2⟩
  case round =>
    clear h2 g2
    obtain ⟨i, v, hi, rfl, rfl, rfl, h, g⟩ := hrel
    obtain ⟨A3, c3, rfl⟩ := h.own.form
    by_cases hlt : i < m
    · obtain ⟨b, off, rfl, hc⟩ := hr2 i hlt
      have hc2 := g.ends.cell hc
      have hb := ha2 i hlt
      have hp := sumTo_lt l i
      have HSA := Lib.hid (show sumTo l (i + 1) = sm (sumTo l i) (l.getD i 0) from rfl)
      have HR := Lib.hid (show (List.range (i + 1)).map (fun i => sumTo l (i + 1)) = (List.range i).map (fun i => sumTo l (i + 1)) ++ [sumTo l (i + 1)] by rw [List.range_succ, List.map_append]; rfl)
      obtain ⟨d, hd⟩ : ∃ d, d = sumTo l (i + 1) := ⟨_, rfl⟩
      have HDd := Lib.hid hd
      rw [← hd] at HSA HR
      clear hd
      generalize sumTo l i = last at hp HSA ⊢
      generalize l.getD i 0 = n at hb hc hc2 HSA
      have HC := Lib.hid hc
      clear hc ha2 hr2
      have hli : (i : Int) < (m : Int) := by omega
      have hl0 : (0 : Int) ≤ (i : Int) := by omega
      have hnm : (n : Int).tmod 2 = (n : Int) % 2 := Int.tmod_eq_emod_of_nonneg (by omega)
      have hnd : (n : Int).tdiv 2 = (n : Int) / 2 := Int.tdiv_eq_ediv_of_nonneg (by omega)
      have ka1 := fun a : After wr => (After.ext a).cell hc2
      by_cases h2 : n % 2 = 0
      · have hb2 : ((n : Int) % 2 == 0) = true := by rw [beq_iff_eq]; omega
        have e1 := Lib.hid (sum_even last n hp hb h2)
        go_wp2_with (at_builtin; refine wpList_push2 rfl _ _ _ rfl 22 (.int .u64 0) 1 8 Try.underlying27 u64_info rfl (by decide) h g rfl rfl rfl (by intro u hu; simp at hu; subst hu; rfl) (by unfold maxLen; omega) (by omega) ?_; intro A' c' w6 h6 g6)
        have h7 : St S W w6 (ownT 22 1 (.slice A' (i + 1) c') (i + 1) (numsV ((List.range (i + 1)).map (fun i => sumTo l (i + 1)))) :: M) := by
          rw [HR.out, numsV_append, HSA.out]; rw [e1.out] at h6; exact h6
        have g7 : St noB w w6 [ownT 22 1 (.slice A' (i + 1) c') (i + 1) (numsV ((List.range (i + 1)).map (fun i => sumTo l (i + 1))))] := by
          rw [HR.out, numsV_append, HSA.out]; rw [e1.out] at g6; exact g6
        go_roundw
        case rel => first | (refine ⟨i + 1, _, by omega, rfl, ?_, by go_num, h7, g7⟩; exact iv (by rw [← HDd.out, HSA.out]; exact e1.out)) | ((repeat apply Exists.intro); refine ⟨⟨i + 1, _, by omega, rfl, ?_, by go_num, h7, g7⟩, rfl⟩; exact iv (by rw [← HDd.out, HSA.out]; exact e1.out))
        case measure => simp [intOf]; omega
      · have hb2 : ((n : Int) % 2 == 0) = false := by rw [beq_eq_false_iff_ne]; omega
        have e1 := Lib.hid (sum_odd last n hp hb h2)
        go_wp2_with (at_builtin; refine wpList_push2 rfl _ _ _ rfl 22 (.int .u64 0) 1 8 Try.underlying27 u64_info rfl (by decide) h g rfl rfl rfl (by intro u hu; simp at hu; subst hu; rfl) (by unfold maxLen; omega) (by omega) ?_; intro A' c' w6 h6 g6)
        have h7 : St S W w6 (ownT 22 1 (.slice A' (i + 1) c') (i + 1) (numsV ((List.range (i + 1)).map (fun i => sumTo l (i + 1)))) :: M) := by
          rw [HR.out, numsV_append, HSA.out]; rw [e1.out] at h6; exact h6
        have g7 : St noB w w6 [ownT 22 1 (.slice A' (i + 1) c') (i + 1) (numsV ((List.range (i + 1)).map (fun i => sumTo l (i + 1))))] := by
          rw [HR.out, numsV_append, HSA.out]; rw [e1.out] at g6; exact g6
        go_roundw
        case rel => first | (refine ⟨i + 1, _, by omega, rfl, ?_, by go_num, h7, g7⟩; exact iv (by rw [← HDd.out, HSA.out]; exact e1.out)) | ((repeat apply Exists.intro); refine ⟨⟨i + 1, _, by omega, rfl, ?_, by go_num, h7, g7⟩, rfl⟩; exact iv (by rw [← HDd.out, HSA.out]; exact e1.out))
        case measure => simp [intOf]; omega
    · obtain rfl : i = m := by omega
      go_wp2_with fail
      go_ret
      refine ⟨_, rfl, ?_, g.ends⟩
      rw [HD.out]
      unfold nlT
      rw [List.length_map, List.length_range]
      exact h
end
end Go.Proofs.Ytkjnpjkfagdegaa
