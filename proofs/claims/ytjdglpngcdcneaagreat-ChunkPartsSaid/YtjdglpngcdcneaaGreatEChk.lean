/- Layer 21: which events may be; the first that may not. -/
import Derived.Test.YtjdglpngcdcneaaGreatEEq
namespace Go.Proofs.YtjdglpngcdcneaaGreat
open Go.RowKit Go.WideShapes
set_option linter.unusedVariables false
set_option linter.unusedSimpArgs false
set_option linter.unusedSectionVars false
set_option maxRecDepth 20000 in
set_option maxHeartbeats 4000000 in
theorem right_any (w : World) (e : Ev) : Calls Tryz.prog 32 #[evV e] w fun r w' => r = .returned (.bool (decide (rightE e))) ∧ Ext w w' := by
  obtain ⟨th, kd, rg, tk, vl⟩ := e
  have HB := Lib.hid (fun w => bare_any w ⟨th, kd, rg, tk, vl⟩)
  have heq := fun w => ev_eql ⟨th, kd, rg, tk, vl⟩ (bareE ⟨th, kd, rg, tk, vl⟩) w
  have HN := Lib.hid (fun w => name_any w kd)
  have hne := nameE_ne kd
  have hD : rightE ⟨th, kd, rg, tk, vl⟩ ↔ (nameE kd).toList ≠ [] ∧ (⟨th, kd, rg, tk, vl⟩ : Ev) = bareE ⟨th, kd, rg, tk, vl⟩ ∧ 0 ≤ th ∧ th < 8 ∧ 0 ≤ rg ∧ rg < 8 ∧ tk < 4611686018427387904 := by
    rw [hne]; rfl
  clear hne
  generalize nameE kd = nm at *
  obtain ⟨be, hbe⟩ : ∃ x, bareE ⟨th, kd, rg, tk, vl⟩ = x := ⟨_, rfl⟩
  rw [hbe] at HB heq hD
  clear hbe
  obtain ⟨th2, kd2, rg2, tk2, vl2⟩ := be
  dsimp only [evV] at HB heq ⊢
  obtain ⟨q, hq⟩ : ∃ q, decide ((⟨th, kd, rg, tk, vl⟩ : Ev) = ⟨th2, kd2, rg2, tk2, vl2⟩) = q := ⟨_, rfl⟩
  rw [hq] at heq
  obtain ⟨d, hd⟩ : ∃ d, decide (rightE ⟨th, kd, rg, tk, vl⟩) = d := ⟨_, rfl⟩
  rw [hd]
  have h := (St.start noB w).alloc (evA th kd rg tk vl) 36
  by_cases g1 : nm.toList = []
  · obtain rfl : d = false := by rw [← hd]; exact decide_eq_false (fun c => (hD.1 c).1 g1)
    clear hd hq hD
    go_enter Tryz.func32, Tryz.ntmps32
    go_wp2_with fail
    change St noB w (w.alloc (.cells #[.int .i64 th, .int .i64 kd, .int .i64 rg, .int .u64 tk, .int .u64 vl] 36)) [blkT w.heap.size (evA th kd rg tk vl) 36] at h
    generalize w.alloc (.cells #[.int .i64 th, .int .i64 kd, .int .i64 rg, .int .u64 tk, .int .u64 vl] 36) = wr at h ⊢
    generalize w.heap.size = b at h ⊢
    have c0 : _ = some (Value.int .i64 th) := cell_of_heap h.blk 0
    have c1 : _ = some (Value.int .i64 kd) := cell_of_heap h.blk 1
    have c2 : _ = some (Value.int .i64 rg) := cell_of_heap h.blk 2
    have c3 : _ = some (Value.int .u64 ((tk : Nat) : Int)) := cell_of_heap h.blk 3
    have c4 : _ = some (Value.int .u64 ((vl : Nat) : Int)) := cell_of_heap h.blk 4
    have k0 := fun a : After wr => (After.ext a).cell c0
    have k1 := fun a : After wr => (After.ext a).cell c1
    have k2 := fun a : After wr => (After.ext a).cell c2
    have k3 := fun a : After wr => (After.ext a).cell c3
    have k4 := fun a : After wr => (After.ext a).cell c4
    have HE := Lib.hid h.ends
    clear c0 c1 c2 c3 c4 h
    (refine wp_region_after (by kernel_rfl) (by kernel_rfl) ?_; (repeat (first | go_big_quiet_skip | (go_big_quiet_want; first | (fail; simp only [Act.put, List.setIfInBounds_toArray, List.set_cons_succ, List.set_cons_zero]; go_big_quiet_on) | (go_big_quiet_op; first | go_big_quiet_on | (apply Exists.intro; refine ⟨fun _ => ?_, ?_⟩; (· (first | (go_at_call 56; exact Calls.after (HN.out _)) | (go_at_call 57; exact Calls.after (HB.out _)))); go_big_quiet_on))))); refine wpQuiet_nil ?_; rintro _ ⟨y, rfl⟩)
    go_wp2_with fail
    go_ret
    exact ⟨rfl, HE.out.trans y.ext⟩
  have b1 : (nm.toList == []) = false := by rw [beq_eq_false_iff_ne]; exact g1
  cases q
  · obtain rfl : d = false := by rw [← hd]; exact decide_eq_false (fun c => of_decide_eq_false hq (hD.1 c).2.1)
    clear hd hq hD
    go_enter Tryz.func32, Tryz.ntmps32
    go_wp2_with fail
    change St noB w (w.alloc (.cells #[.int .i64 th, .int .i64 kd, .int .i64 rg, .int .u64 tk, .int .u64 vl] 36)) [blkT w.heap.size (evA th kd rg tk vl) 36] at h
    generalize w.alloc (.cells #[.int .i64 th, .int .i64 kd, .int .i64 rg, .int .u64 tk, .int .u64 vl] 36) = wr at h ⊢
    generalize w.heap.size = b at h ⊢
    have c0 : _ = some (Value.int .i64 th) := cell_of_heap h.blk 0
    have c1 : _ = some (Value.int .i64 kd) := cell_of_heap h.blk 1
    have c2 : _ = some (Value.int .i64 rg) := cell_of_heap h.blk 2
    have c3 : _ = some (Value.int .u64 ((tk : Nat) : Int)) := cell_of_heap h.blk 3
    have c4 : _ = some (Value.int .u64 ((vl : Nat) : Int)) := cell_of_heap h.blk 4
    have k0 := fun a : After wr => (After.ext a).cell c0
    have k1 := fun a : After wr => (After.ext a).cell c1
    have k2 := fun a : After wr => (After.ext a).cell c2
    have k3 := fun a : After wr => (After.ext a).cell c3
    have k4 := fun a : After wr => (After.ext a).cell c4
    have HE := Lib.hid h.ends
    clear c0 c1 c2 c3 c4 h
    (refine wp_region_after (by kernel_rfl) (by kernel_rfl) ?_; (repeat (first | go_big_quiet_skip | (go_big_quiet_want; first | (fail; simp only [Act.put, List.setIfInBounds_toArray, List.set_cons_succ, List.set_cons_zero]; go_big_quiet_on) | (go_big_quiet_op; first | go_big_quiet_on | (apply Exists.intro; refine ⟨fun _ => ?_, ?_⟩; (· (first | (go_at_call 56; exact Calls.after (HN.out _)) | (go_at_call 57; exact Calls.after (HB.out _)))); go_big_quiet_on))))); refine wpQuiet_nil ?_; rintro _ ⟨y, rfl⟩)
    go_wp2_with fail
    go_ret
    exact ⟨rfl, HE.out.trans y.ext⟩
  have hq := of_decide_eq_true hq
  by_cases g2 : 0 ≤ th
  rotate_left
  · obtain rfl : d = false := by rw [← hd]; exact decide_eq_false (fun c => g2 (hD.1 c).2.2.1)
    clear hd hq hD
    have b2 : decide (0 ≤ th) = false := decide_eq_false g2
    go_enter Tryz.func32, Tryz.ntmps32
    go_wp2_with fail
    change St noB w (w.alloc (.cells #[.int .i64 th, .int .i64 kd, .int .i64 rg, .int .u64 tk, .int .u64 vl] 36)) [blkT w.heap.size (evA th kd rg tk vl) 36] at h
    generalize w.alloc (.cells #[.int .i64 th, .int .i64 kd, .int .i64 rg, .int .u64 tk, .int .u64 vl] 36) = wr at h ⊢
    generalize w.heap.size = b at h ⊢
    have c0 : _ = some (Value.int .i64 th) := cell_of_heap h.blk 0
    have c1 : _ = some (Value.int .i64 kd) := cell_of_heap h.blk 1
    have c2 : _ = some (Value.int .i64 rg) := cell_of_heap h.blk 2
    have c3 : _ = some (Value.int .u64 ((tk : Nat) : Int)) := cell_of_heap h.blk 3
    have c4 : _ = some (Value.int .u64 ((vl : Nat) : Int)) := cell_of_heap h.blk 4
    have k0 := fun a : After wr => (After.ext a).cell c0
    have k1 := fun a : After wr => (After.ext a).cell c1
    have k2 := fun a : After wr => (After.ext a).cell c2
    have k3 := fun a : After wr => (After.ext a).cell c3
    have k4 := fun a : After wr => (After.ext a).cell c4
    have HE := Lib.hid h.ends
    clear c0 c1 c2 c3 c4 h
    (refine wp_region_after (by kernel_rfl) (by kernel_rfl) ?_; (repeat (first | go_big_quiet_skip | (go_big_quiet_want; first | (fail; simp only [Act.put, List.setIfInBounds_toArray, List.set_cons_succ, List.set_cons_zero]; go_big_quiet_on) | (go_big_quiet_op; first | go_big_quiet_on | (apply Exists.intro; refine ⟨fun _ => ?_, ?_⟩; (· (first | (go_at_call 56; exact Calls.after (HN.out _)) | (go_at_call 57; exact Calls.after (HB.out _)))); go_big_quiet_on))))); refine wpQuiet_nil ?_; rintro _ ⟨y, rfl⟩)
    go_wp2_with fail
    go_ret
    exact ⟨rfl, HE.out.trans y.ext⟩
  have b2 : decide (0 ≤ th) = true := decide_eq_true g2
  by_cases g3 : th < 8
  rotate_left
  · obtain rfl : d = false := by rw [← hd]; exact decide_eq_false (fun c => g3 (hD.1 c).2.2.2.1)
    clear hd hq hD
    have b3 : decide (th < 8) = false := decide_eq_false g3
    go_enter Tryz.func32, Tryz.ntmps32
    go_wp2_with fail
    change St noB w (w.alloc (.cells #[.int .i64 th, .int .i64 kd, .int .i64 rg, .int .u64 tk, .int .u64 vl] 36)) [blkT w.heap.size (evA th kd rg tk vl) 36] at h
    generalize w.alloc (.cells #[.int .i64 th, .int .i64 kd, .int .i64 rg, .int .u64 tk, .int .u64 vl] 36) = wr at h ⊢
    generalize w.heap.size = b at h ⊢
    have c0 : _ = some (Value.int .i64 th) := cell_of_heap h.blk 0
    have c1 : _ = some (Value.int .i64 kd) := cell_of_heap h.blk 1
    have c2 : _ = some (Value.int .i64 rg) := cell_of_heap h.blk 2
    have c3 : _ = some (Value.int .u64 ((tk : Nat) : Int)) := cell_of_heap h.blk 3
    have c4 : _ = some (Value.int .u64 ((vl : Nat) : Int)) := cell_of_heap h.blk 4
    have k0 := fun a : After wr => (After.ext a).cell c0
    have k1 := fun a : After wr => (After.ext a).cell c1
    have k2 := fun a : After wr => (After.ext a).cell c2
    have k3 := fun a : After wr => (After.ext a).cell c3
    have k4 := fun a : After wr => (After.ext a).cell c4
    have HE := Lib.hid h.ends
    clear c0 c1 c2 c3 c4 h
    (refine wp_region_after (by kernel_rfl) (by kernel_rfl) ?_; (repeat (first | go_big_quiet_skip | (go_big_quiet_want; first | (fail; simp only [Act.put, List.setIfInBounds_toArray, List.set_cons_succ, List.set_cons_zero]; go_big_quiet_on) | (go_big_quiet_op; first | go_big_quiet_on | (apply Exists.intro; refine ⟨fun _ => ?_, ?_⟩; (· (first | (go_at_call 56; exact Calls.after (HN.out _)) | (go_at_call 57; exact Calls.after (HB.out _)))); go_big_quiet_on))))); refine wpQuiet_nil ?_; rintro _ ⟨y, rfl⟩)
    go_wp2_with fail
    go_ret
    exact ⟨rfl, HE.out.trans y.ext⟩
  have b3 : decide (th < 8) = true := decide_eq_true g3
  by_cases g4 : 0 ≤ rg
  rotate_left
  · obtain rfl : d = false := by rw [← hd]; exact decide_eq_false (fun c => g4 (hD.1 c).2.2.2.2.1)
    clear hd hq hD
    have b4 : decide (0 ≤ rg) = false := decide_eq_false g4
    go_enter Tryz.func32, Tryz.ntmps32
    go_wp2_with fail
    change St noB w (w.alloc (.cells #[.int .i64 th, .int .i64 kd, .int .i64 rg, .int .u64 tk, .int .u64 vl] 36)) [blkT w.heap.size (evA th kd rg tk vl) 36] at h
    generalize w.alloc (.cells #[.int .i64 th, .int .i64 kd, .int .i64 rg, .int .u64 tk, .int .u64 vl] 36) = wr at h ⊢
    generalize w.heap.size = b at h ⊢
    have c0 : _ = some (Value.int .i64 th) := cell_of_heap h.blk 0
    have c1 : _ = some (Value.int .i64 kd) := cell_of_heap h.blk 1
    have c2 : _ = some (Value.int .i64 rg) := cell_of_heap h.blk 2
    have c3 : _ = some (Value.int .u64 ((tk : Nat) : Int)) := cell_of_heap h.blk 3
    have c4 : _ = some (Value.int .u64 ((vl : Nat) : Int)) := cell_of_heap h.blk 4
    have k0 := fun a : After wr => (After.ext a).cell c0
    have k1 := fun a : After wr => (After.ext a).cell c1
    have k2 := fun a : After wr => (After.ext a).cell c2
    have k3 := fun a : After wr => (After.ext a).cell c3
    have k4 := fun a : After wr => (After.ext a).cell c4
    have HE := Lib.hid h.ends
    clear c0 c1 c2 c3 c4 h
    (refine wp_region_after (by kernel_rfl) (by kernel_rfl) ?_; (repeat (first | go_big_quiet_skip | (go_big_quiet_want; first | (fail; simp only [Act.put, List.setIfInBounds_toArray, List.set_cons_succ, List.set_cons_zero]; go_big_quiet_on) | (go_big_quiet_op; first | go_big_quiet_on | (apply Exists.intro; refine ⟨fun _ => ?_, ?_⟩; (· (first | (go_at_call 56; exact Calls.after (HN.out _)) | (go_at_call 57; exact Calls.after (HB.out _)))); go_big_quiet_on))))); refine wpQuiet_nil ?_; rintro _ ⟨y, rfl⟩)
    go_wp2_with fail
    go_ret
    exact ⟨rfl, HE.out.trans y.ext⟩
  have b4 : decide (0 ≤ rg) = true := decide_eq_true g4
  by_cases g5 : rg < 8
  rotate_left
  · obtain rfl : d = false := by rw [← hd]; exact decide_eq_false (fun c => g5 (hD.1 c).2.2.2.2.2.1)
    clear hd hq hD
    have b5 : decide (rg < 8) = false := decide_eq_false g5
    go_enter Tryz.func32, Tryz.ntmps32
    go_wp2_with fail
    change St noB w (w.alloc (.cells #[.int .i64 th, .int .i64 kd, .int .i64 rg, .int .u64 tk, .int .u64 vl] 36)) [blkT w.heap.size (evA th kd rg tk vl) 36] at h
    generalize w.alloc (.cells #[.int .i64 th, .int .i64 kd, .int .i64 rg, .int .u64 tk, .int .u64 vl] 36) = wr at h ⊢
    generalize w.heap.size = b at h ⊢
    have c0 : _ = some (Value.int .i64 th) := cell_of_heap h.blk 0
    have c1 : _ = some (Value.int .i64 kd) := cell_of_heap h.blk 1
    have c2 : _ = some (Value.int .i64 rg) := cell_of_heap h.blk 2
    have c3 : _ = some (Value.int .u64 ((tk : Nat) : Int)) := cell_of_heap h.blk 3
    have c4 : _ = some (Value.int .u64 ((vl : Nat) : Int)) := cell_of_heap h.blk 4
    have k0 := fun a : After wr => (After.ext a).cell c0
    have k1 := fun a : After wr => (After.ext a).cell c1
    have k2 := fun a : After wr => (After.ext a).cell c2
    have k3 := fun a : After wr => (After.ext a).cell c3
    have k4 := fun a : After wr => (After.ext a).cell c4
    have HE := Lib.hid h.ends
    clear c0 c1 c2 c3 c4 h
    (refine wp_region_after (by kernel_rfl) (by kernel_rfl) ?_; (repeat (first | go_big_quiet_skip | (go_big_quiet_want; first | (fail; simp only [Act.put, List.setIfInBounds_toArray, List.set_cons_succ, List.set_cons_zero]; go_big_quiet_on) | (go_big_quiet_op; first | go_big_quiet_on | (apply Exists.intro; refine ⟨fun _ => ?_, ?_⟩; (· (first | (go_at_call 56; exact Calls.after (HN.out _)) | (go_at_call 57; exact Calls.after (HB.out _)))); go_big_quiet_on))))); refine wpQuiet_nil ?_; rintro _ ⟨y, rfl⟩)
    go_wp2_with fail
    go_ret
    exact ⟨rfl, HE.out.trans y.ext⟩
  have b5 : decide (rg < 8) = true := decide_eq_true g5
  have e9 : d = decide ((tk : Int) < 4611686018427387904) := by
    rw [← hd, decide_eq_decide]
    constructor
    · intro c
      have c2 := (hD.1 c).2.2.2.2.2.2
      omega
    · intro c
      have c2 : tk < 4611686018427387904 := by omega
      exact hD.2 ⟨g1, hq, g2, g3, g4, g5, c2⟩
  rw [e9]
  clear e9
  clear hd hq hD
  go_enter Tryz.func32, Tryz.ntmps32
  go_wp2_with fail
  change St noB w (w.alloc (.cells #[.int .i64 th, .int .i64 kd, .int .i64 rg, .int .u64 tk, .int .u64 vl] 36)) [blkT w.heap.size (evA th kd rg tk vl) 36] at h
  generalize w.alloc (.cells #[.int .i64 th, .int .i64 kd, .int .i64 rg, .int .u64 tk, .int .u64 vl] 36) = wr at h ⊢
  generalize w.heap.size = b at h ⊢
  have c0 : _ = some (Value.int .i64 th) := cell_of_heap h.blk 0
  have c1 : _ = some (Value.int .i64 kd) := cell_of_heap h.blk 1
  have c2 : _ = some (Value.int .i64 rg) := cell_of_heap h.blk 2
  have c3 : _ = some (Value.int .u64 ((tk : Nat) : Int)) := cell_of_heap h.blk 3
  have c4 : _ = some (Value.int .u64 ((vl : Nat) : Int)) := cell_of_heap h.blk 4
  have k0 := fun a : After wr => (After.ext a).cell c0
  have k1 := fun a : After wr => (After.ext a).cell c1
  have k2 := fun a : After wr => (After.ext a).cell c2
  have k3 := fun a : After wr => (After.ext a).cell c3
  have k4 := fun a : After wr => (After.ext a).cell c4
  have HE := Lib.hid h.ends
  clear c0 c1 c2 c3 c4 h
  (refine wp_region_after (by kernel_rfl) (by kernel_rfl) ?_; (repeat (first | go_big_quiet_skip | (go_big_quiet_want; first | (fail; simp only [Act.put, List.setIfInBounds_toArray, List.set_cons_succ, List.set_cons_zero]; go_big_quiet_on) | (go_big_quiet_op; first | go_big_quiet_on | (apply Exists.intro; refine ⟨fun _ => ?_, ?_⟩; (· (first | (go_at_call 56; exact Calls.after (HN.out _)) | (go_at_call 57; exact Calls.after (HB.out _)))); go_big_quiet_on))))); refine wpQuiet_nil ?_; rintro _ ⟨y, rfl⟩)
  go_wp2_with fail
  go_ret
  exact ⟨rfl, HE.out.trans y.ext⟩
end Go.Proofs.YtjdglpngcdcneaaGreat
