/- Layer 21: which events may be. -/
import Derived.Test.YtjdglpngcdcneaaGreatEPure
import Derived.Test.YtjdglpngcdcneaaGreatHf
namespace Go.Proofs.YtjdglpngcdcneaaGreat
open Go.RowKit Go.WideShapes
set_option linter.unusedVariables false
set_option linter.unusedSimpArgs false
set_option linter.unusedSectionVars false
theorem ev_info : (Tryz.prog.info? 36).map (fun i => (i.zero, i.size, i.bytes)) = some (some (.agg #[.int .i64 0, .int .i64 0, .int .i64 0, .int .u64 0, .int .u64 0]), 5, 40) := by kernel_rfl
theorem ev_size : (Tryz.prog.info? 36).map (·.size) = some 5 := by kernel_rfl
def evA (th kd rg : Int) (tk vl : Nat) : Array Value := #[.int .i64 th, .int .i64 kd, .int .i64 rg, .int .u64 tk, .int .u64 vl]
theorem evA_one (th kd rg : Int) (tk vl : Nat) : ∀ u ∈ (evA th kd rg tk vl).toList, u.oneCell' = true := by
  intro u hu
  simp [evA] at hu
  rcases hu with rfl | rfl | rfl | rfl | rfl <;> rfl
set_option maxRecDepth 20000 in
set_option maxHeartbeats 2000000 in
theorem bare_any (w : World) (e : Ev) : Calls Tryz.prog 57 #[evV e] w fun r w' => r = .returned (evV (bareE e)) ∧ Ext w w' := by
  obtain ⟨th, kd, rg, tk, vl⟩ := e
  have HR := Lib.hid (fun w => rings_any w kd)
  have HT := Lib.hid (fun w => tickets_any w kd)
  have HV := Lib.hid (fun w => values_any w kd)
  unfold bareE evV
  simp only
  generalize ringB kd = b1 at HR ⊢
  generalize tickB kd = b2 at HT ⊢
  generalize valB kd = b3 at HV ⊢
  have h := (((St.start noB w).alloc (evA th kd rg tk vl) 36).alloc (evA 0 0 0 0 0) 36).pull 1
  change St noB w _ [blkT w.heap.size _ _, blkT _ _ _] at h
  rw [size_alloc'] at h
  go_enter Tryz.func57, Tryz.ntmps57
  go_wp2_with fail
  change St noB w ((w.alloc (.cells #[.int .i64 th, .int .i64 kd, .int .i64 rg, .int .u64 tk, .int .u64 vl] 36)).alloc (.cells #[.int .i64 0, .int .i64 0, .int .i64 0, .int .u64 0, .int .u64 0] 36)) [blkT w.heap.size (evA th kd rg tk vl) 36, blkT (w.heap.size + 1) (evA 0 0 0 0 0) 36] at h
  generalize (w.alloc (.cells #[.int .i64 th, .int .i64 kd, .int .i64 rg, .int .u64 tk, .int .u64 vl] 36)).alloc (.cells #[.int .i64 0, .int .i64 0, .int .i64 0, .int .u64 0, .int .u64 0] 36) = wr at h ⊢
  obtain ⟨r, hr⟩ : ∃ r, w.heap.size + 1 = r := ⟨_, rfl⟩
  rw [hr] at h ⊢
  clear hr
  generalize w.heap.size = b at h ⊢
  have k1 : _ = some (Value.int .i64 kd) := cell_of_heap h.blk 1
  have k2 : _ = some (Value.int .i64 rg) := cell_of_heap h.blk 2
  have k3 : _ = some (Value.int .u64 ((tk : Nat) : Int)) := cell_of_heap h.blk 3
  have k4 : _ = some (Value.int .u64 ((vl : Nat) : Int)) := cell_of_heap h.blk 4
  have f2 := free_of_heap h.blk 2
  have f3 := free_of_heap h.blk 3
  have f4 := free_of_heap h.blk 4
  go_wp2_with fail
  refine (HR.out _).mono ?_
  rintro _ _ ⟨rfl, rfl⟩
  cases b1
  · have h9 := h.set 2 (.int .i64 0)
    change St noB w _ [blkT b (evA th kd 0 tk vl) 36, blkT r (evA 0 0 0 0 0) 36] at h9
    have j1 : _ = some (Value.int .i64 kd) := cell_of_heap h9.blk 1
    go_wp2_with fail
    clear k1 k2 k3 k4 f2 f3 f4 h
    generalize World.setCell _ ⟨b, 2, none⟩ (.int .i64 0) = wq at h9 j1 ⊢
    have h := h9
    clear h9 j1
    have k1 : _ = some (Value.int .i64 kd) := cell_of_heap h.blk 1
    have k2 : _ = some (Value.int .i64 0) := cell_of_heap h.blk 2
    have k3 : _ = some (Value.int .u64 ((tk : Nat) : Int)) := cell_of_heap h.blk 3
    have k4 : _ = some (Value.int .u64 ((vl : Nat) : Int)) := cell_of_heap h.blk 4
    have f2 := free_of_heap h.blk 2
    have f3 := free_of_heap h.blk 3
    have f4 := free_of_heap h.blk 4
    refine (HT.out _).mono ?_
    rintro _ _ ⟨rfl, rfl⟩
    cases b2
    · have h9 := h.set 3 (.int .u64 0)
      change St noB w _ [blkT b (evA th kd 0 0 vl) 36, blkT r (evA 0 0 0 0 0) 36] at h9
      have j1 : _ = some (Value.int .i64 kd) := cell_of_heap h9.blk 1
      go_wp2_with fail
      clear k1 k2 k3 k4 f2 f3 f4 h
      generalize World.setCell _ ⟨b, 3, none⟩ (.int .u64 0) = wq at h9 j1 ⊢
      have h := h9
      clear h9 j1
      have k1 : _ = some (Value.int .i64 kd) := cell_of_heap h.blk 1
      have k2 : _ = some (Value.int .i64 0) := cell_of_heap h.blk 2
      have k3 : _ = some (Value.int .u64 ((0 : Nat) : Int)) := cell_of_heap h.blk 3
      have k4 : _ = some (Value.int .u64 ((vl : Nat) : Int)) := cell_of_heap h.blk 4
      have f2 := free_of_heap h.blk 2
      have f3 := free_of_heap h.blk 3
      have f4 := free_of_heap h.blk 4
      refine (HV.out _).mono ?_
      rintro _ _ ⟨rfl, rfl⟩
      cases b3
      · have h := h.set 4 (.int .u64 0)
        change St noB w _ [blkT b (evA th kd 0 0 0) 36, blkT r (evA 0 0 0 0 0) 36] at h
        have hq := Lib.hid h.blk
        have h2 := h.pull 1
        have hr := Lib.hid h2.blk
        have h3 := h2.row (evA th kd 0 0 0)
        go_wp2_with (first
          | (refine wpList_load_row rfl _ _ rfl b rfl 36 (evA th kd 0 0 0) (0, 0) _ hq.out Tryz.underlying36 rfl ev_size ?_)
          | (refine wpList_store_row rfl _ _ _ rfl r (evA th kd 0 0 0) rfl rfl 36 (evA 0 0 0 0 0) hr.out ev_size rfl (by simp [evA, Value.oneCell']) ?_))
        refine bodyPost_ret_by (v := .agg (evA th kd 0 0 0)) (results_cell_row rfl _ _ r 36 (evA th kd 0 0 0) (0, 0) _ rfl h3.blk Tryz.underlying36 rfl ev_size) rfl ?_
        exact ⟨rfl, h3.ends⟩
      · have hq := Lib.hid h.blk
        have h2 := h.pull 1
        have hr := Lib.hid h2.blk
        have h3 := h2.row (evA th kd 0 0 vl)
        go_wp2_with (first
          | (refine wpList_load_row rfl _ _ rfl b rfl 36 (evA th kd 0 0 vl) (0, 0) _ hq.out Tryz.underlying36 rfl ev_size ?_)
          | (refine wpList_store_row rfl _ _ _ rfl r (evA th kd 0 0 vl) rfl rfl 36 (evA 0 0 0 0 0) hr.out ev_size rfl (by simp [evA, Value.oneCell']) ?_))
        refine bodyPost_ret_by (v := .agg (evA th kd 0 0 vl)) (results_cell_row rfl _ _ r 36 (evA th kd 0 0 vl) (0, 0) _ rfl h3.blk Tryz.underlying36 rfl ev_size) rfl ?_
        exact ⟨rfl, h3.ends⟩
    · go_wp2_with fail
      refine (HV.out _).mono ?_
      rintro _ _ ⟨rfl, rfl⟩
      cases b3
      · have h := h.set 4 (.int .u64 0)
        change St noB w _ [blkT b (evA th kd 0 tk 0) 36, blkT r (evA 0 0 0 0 0) 36] at h
        have hq := Lib.hid h.blk
        have h2 := h.pull 1
        have hr := Lib.hid h2.blk
        have h3 := h2.row (evA th kd 0 tk 0)
        go_wp2_with (first
          | (refine wpList_load_row rfl _ _ rfl b rfl 36 (evA th kd 0 tk 0) (0, 0) _ hq.out Tryz.underlying36 rfl ev_size ?_)
          | (refine wpList_store_row rfl _ _ _ rfl r (evA th kd 0 tk 0) rfl rfl 36 (evA 0 0 0 0 0) hr.out ev_size rfl (by simp [evA, Value.oneCell']) ?_))
        refine bodyPost_ret_by (v := .agg (evA th kd 0 tk 0)) (results_cell_row rfl _ _ r 36 (evA th kd 0 tk 0) (0, 0) _ rfl h3.blk Tryz.underlying36 rfl ev_size) rfl ?_
        exact ⟨rfl, h3.ends⟩
      · have hq := Lib.hid h.blk
        have h2 := h.pull 1
        have hr := Lib.hid h2.blk
        have h3 := h2.row (evA th kd 0 tk vl)
        go_wp2_with (first
          | (refine wpList_load_row rfl _ _ rfl b rfl 36 (evA th kd 0 tk vl) (0, 0) _ hq.out Tryz.underlying36 rfl ev_size ?_)
          | (refine wpList_store_row rfl _ _ _ rfl r (evA th kd 0 tk vl) rfl rfl 36 (evA 0 0 0 0 0) hr.out ev_size rfl (by simp [evA, Value.oneCell']) ?_))
        refine bodyPost_ret_by (v := .agg (evA th kd 0 tk vl)) (results_cell_row rfl _ _ r 36 (evA th kd 0 tk vl) (0, 0) _ rfl h3.blk Tryz.underlying36 rfl ev_size) rfl ?_
        exact ⟨rfl, h3.ends⟩
  · go_wp2_with fail
    refine (HT.out _).mono ?_
    rintro _ _ ⟨rfl, rfl⟩
    cases b2
    · have h9 := h.set 3 (.int .u64 0)
      change St noB w _ [blkT b (evA th kd rg 0 vl) 36, blkT r (evA 0 0 0 0 0) 36] at h9
      have j1 : _ = some (Value.int .i64 kd) := cell_of_heap h9.blk 1
      go_wp2_with fail
      clear k1 k2 k3 k4 f2 f3 f4 h
      generalize World.setCell _ ⟨b, 3, none⟩ (.int .u64 0) = wq at h9 j1 ⊢
      have h := h9
      clear h9 j1
      have k1 : _ = some (Value.int .i64 kd) := cell_of_heap h.blk 1
      have k2 : _ = some (Value.int .i64 rg) := cell_of_heap h.blk 2
      have k3 : _ = some (Value.int .u64 ((0 : Nat) : Int)) := cell_of_heap h.blk 3
      have k4 : _ = some (Value.int .u64 ((vl : Nat) : Int)) := cell_of_heap h.blk 4
      have f2 := free_of_heap h.blk 2
      have f3 := free_of_heap h.blk 3
      have f4 := free_of_heap h.blk 4
      refine (HV.out _).mono ?_
      rintro _ _ ⟨rfl, rfl⟩
      cases b3
      · have h := h.set 4 (.int .u64 0)
        change St noB w _ [blkT b (evA th kd rg 0 0) 36, blkT r (evA 0 0 0 0 0) 36] at h
        have hq := Lib.hid h.blk
        have h2 := h.pull 1
        have hr := Lib.hid h2.blk
        have h3 := h2.row (evA th kd rg 0 0)
        go_wp2_with (first
          | (refine wpList_load_row rfl _ _ rfl b rfl 36 (evA th kd rg 0 0) (0, 0) _ hq.out Tryz.underlying36 rfl ev_size ?_)
          | (refine wpList_store_row rfl _ _ _ rfl r (evA th kd rg 0 0) rfl rfl 36 (evA 0 0 0 0 0) hr.out ev_size rfl (by simp [evA, Value.oneCell']) ?_))
        refine bodyPost_ret_by (v := .agg (evA th kd rg 0 0)) (results_cell_row rfl _ _ r 36 (evA th kd rg 0 0) (0, 0) _ rfl h3.blk Tryz.underlying36 rfl ev_size) rfl ?_
        exact ⟨rfl, h3.ends⟩
      · have hq := Lib.hid h.blk
        have h2 := h.pull 1
        have hr := Lib.hid h2.blk
        have h3 := h2.row (evA th kd rg 0 vl)
        go_wp2_with (first
          | (refine wpList_load_row rfl _ _ rfl b rfl 36 (evA th kd rg 0 vl) (0, 0) _ hq.out Tryz.underlying36 rfl ev_size ?_)
          | (refine wpList_store_row rfl _ _ _ rfl r (evA th kd rg 0 vl) rfl rfl 36 (evA 0 0 0 0 0) hr.out ev_size rfl (by simp [evA, Value.oneCell']) ?_))
        refine bodyPost_ret_by (v := .agg (evA th kd rg 0 vl)) (results_cell_row rfl _ _ r 36 (evA th kd rg 0 vl) (0, 0) _ rfl h3.blk Tryz.underlying36 rfl ev_size) rfl ?_
        exact ⟨rfl, h3.ends⟩
    · go_wp2_with fail
      refine (HV.out _).mono ?_
      rintro _ _ ⟨rfl, rfl⟩
      cases b3
      · have h := h.set 4 (.int .u64 0)
        change St noB w _ [blkT b (evA th kd rg tk 0) 36, blkT r (evA 0 0 0 0 0) 36] at h
        have hq := Lib.hid h.blk
        have h2 := h.pull 1
        have hr := Lib.hid h2.blk
        have h3 := h2.row (evA th kd rg tk 0)
        go_wp2_with (first
          | (refine wpList_load_row rfl _ _ rfl b rfl 36 (evA th kd rg tk 0) (0, 0) _ hq.out Tryz.underlying36 rfl ev_size ?_)
          | (refine wpList_store_row rfl _ _ _ rfl r (evA th kd rg tk 0) rfl rfl 36 (evA 0 0 0 0 0) hr.out ev_size rfl (by simp [evA, Value.oneCell']) ?_))
        refine bodyPost_ret_by (v := .agg (evA th kd rg tk 0)) (results_cell_row rfl _ _ r 36 (evA th kd rg tk 0) (0, 0) _ rfl h3.blk Tryz.underlying36 rfl ev_size) rfl ?_
        exact ⟨rfl, h3.ends⟩
      · have hq := Lib.hid h.blk
        have h2 := h.pull 1
        have hr := Lib.hid h2.blk
        have h3 := h2.row (evA th kd rg tk vl)
        go_wp2_with (first
          | (refine wpList_load_row rfl _ _ rfl b rfl 36 (evA th kd rg tk vl) (0, 0) _ hq.out Tryz.underlying36 rfl ev_size ?_)
          | (refine wpList_store_row rfl _ _ _ rfl r (evA th kd rg tk vl) rfl rfl 36 (evA 0 0 0 0 0) hr.out ev_size rfl (by simp [evA, Value.oneCell']) ?_))
        refine bodyPost_ret_by (v := .agg (evA th kd rg tk vl)) (results_cell_row rfl _ _ r 36 (evA th kd rg tk vl) (0, 0) _ rfl h3.blk Tryz.underlying36 rfl ev_size) rfl ?_
        exact ⟨rfl, h3.ends⟩
end Go.Proofs.YtjdglpngcdcneaaGreat
