/- Layer 21: which kinds a stream is of. -/
import Derived.Test.YtjdglpngcdcneaaGreatESet
namespace Go.Proofs.YtjdglpngcdcneaaGreat
open Go.RowKit Go.WideShapes
set_option linter.unusedVariables false
set_option linter.unusedSimpArgs false
set_option linter.unusedSectionVars false
theorem turnrA (b : Nat) (u : Value) (w : World) (hc : w.cell? ⟨b, 2, none⟩ = some u) (hf : w.frozen? ⟨b, 2, none⟩ = false) :
    Calls Tryz.prog 62 #[.pointer (some ⟨b, 0, none⟩)] w fun e w' => e = .returned (.tuple #[]) ∧ w' = w.setCell ⟨b, 2, none⟩ (.int .i64 1) := turnr_any b u w hc hf
theorem turntA (b : Nat) (u : Value) (w : World) (hc : w.cell? ⟨b, 3, none⟩ = some u) (hf : w.frozen? ⟨b, 3, none⟩ = false) :
    Calls Tryz.prog 65 #[.pointer (some ⟨b, 0, none⟩)] w fun e w' => e = .returned (.tuple #[]) ∧ w' = w.setCell ⟨b, 3, none⟩ (.int .u64 1) := turnt_any b u w hc hf
theorem turnvA (b : Nat) (u : Value) (w : World) (hc : w.cell? ⟨b, 4, none⟩ = some u) (hf : w.frozen? ⟨b, 4, none⟩ = false) :
    Calls Tryz.prog 70 #[.pointer (some ⟨b, 0, none⟩)] w fun e w' => e = .returned (.tuple #[]) ∧ w' = w.setCell ⟨b, 4, none⟩ (.int .u64 1) := turnv_any b u w hc hf
set_option maxRecDepth 20000 in
set_option maxHeartbeats 2000000 in
theorem hasr_any (fb : Nat) (k : Int) (w : World) (hf : w.cell? ⟨fb, 0, none⟩ = some (.func (.func 62) #[] #[])) :
    Calls Tryz.prog 93 #[.int .i64 k, .pointer (some ⟨fb, 0, none⟩)] w fun e w' => e = .returned (.bool (decide (rightE ⟨0, k, 1, 0, 0⟩))) ∧ Ext w w' := by
  have h := (St.start noB w).alloc (evA 0 k 0 0 0) 36
  have hf2 := h.ends.cell hf
  change World.cell? (w.alloc (.cells #[.int .i64 0, .int .i64 k, .int .i64 0, .int .u64 0, .int .u64 0] 36)) ⟨fb, 0, none⟩ = _ at hf2
  change St noB w (w.alloc (.cells #[.int .i64 0, .int .i64 k, .int .i64 0, .int .u64 0, .int .u64 0] 36)) [blkT w.heap.size (evA 0 k 0 0 0) 36] at h
  clear hf
  have c2 : _ = some (Value.int .i64 0) := cell_of_heap h.blk 2
  have c3 : _ = some (Value.int .u64 0) := cell_of_heap h.blk 3
  have c4 : _ = some (Value.int .u64 0) := cell_of_heap h.blk 4
  have f2 := free_of_heap h.blk 2
  have f3 := free_of_heap h.blk 3
  have f4 := free_of_heap h.blk 4
  have HT := Lib.hid (turnrA w.heap.size _ _ c2 f2)
  have h2 := h.set 2 (.int .i64 1)
  change St noB w _ [blkT w.heap.size (evA 0 k 1 0 0) 36] at h2
  have hq := Lib.hid h2.blk
  have HX := Lib.hid ((St.start noB w).alloc (evA 0 k 1 0 0) 36).ends
  clear h h2 c2 c3 c4 f2 f3 f4
  have HR := Lib.hid (fun w => right_any w ⟨0, k, 1, 0, 0⟩)
  generalize decide (rightE ⟨0, k, 1, 0, 0⟩) = d at HR ⊢
  go_enter Tryz.func93, Tryz.ntmps93
  go_wp2_with fail
  refine HT.out.mono ?_
  rintro _ _ ⟨rfl, rfl⟩
  go_wp2_with (refine wpList_load_row rfl _ _ rfl w.heap.size rfl 36 (evA 0 k 1 0 0) (0, 0) _ hq.out Tryz.underlying36 rfl ev_size ?_)
  refine (HR.out _).mono ?_
  rintro _ w6 ⟨rfl, x6⟩
  go_wp2_with fail
  go_ret
  exact ⟨rfl, HX.out.trans x6⟩
set_option maxRecDepth 20000 in
set_option maxHeartbeats 2000000 in
theorem hast_any (fb : Nat) (k : Int) (w : World) (hf : w.cell? ⟨fb, 0, none⟩ = some (.func (.func 65) #[] #[])) :
    Calls Tryz.prog 93 #[.int .i64 k, .pointer (some ⟨fb, 0, none⟩)] w fun e w' => e = .returned (.bool (decide (rightE ⟨0, k, 0, 1, 0⟩))) ∧ Ext w w' := by
  have h := (St.start noB w).alloc (evA 0 k 0 0 0) 36
  have hf2 := h.ends.cell hf
  change World.cell? (w.alloc (.cells #[.int .i64 0, .int .i64 k, .int .i64 0, .int .u64 0, .int .u64 0] 36)) ⟨fb, 0, none⟩ = _ at hf2
  change St noB w (w.alloc (.cells #[.int .i64 0, .int .i64 k, .int .i64 0, .int .u64 0, .int .u64 0] 36)) [blkT w.heap.size (evA 0 k 0 0 0) 36] at h
  clear hf
  have c2 : _ = some (Value.int .i64 0) := cell_of_heap h.blk 2
  have c3 : _ = some (Value.int .u64 0) := cell_of_heap h.blk 3
  have c4 : _ = some (Value.int .u64 0) := cell_of_heap h.blk 4
  have f2 := free_of_heap h.blk 2
  have f3 := free_of_heap h.blk 3
  have f4 := free_of_heap h.blk 4
  have HT := Lib.hid (turntA w.heap.size _ _ c3 f3)
  have h2 := h.set 3 (.int .u64 1)
  change St noB w _ [blkT w.heap.size (evA 0 k 0 1 0) 36] at h2
  have hq := Lib.hid h2.blk
  have HX := Lib.hid ((St.start noB w).alloc (evA 0 k 0 1 0) 36).ends
  clear h h2 c2 c3 c4 f2 f3 f4
  have HR := Lib.hid (fun w => right_any w ⟨0, k, 0, 1, 0⟩)
  generalize decide (rightE ⟨0, k, 0, 1, 0⟩) = d at HR ⊢
  go_enter Tryz.func93, Tryz.ntmps93
  go_wp2_with fail
  refine HT.out.mono ?_
  rintro _ _ ⟨rfl, rfl⟩
  go_wp2_with (refine wpList_load_row rfl _ _ rfl w.heap.size rfl 36 (evA 0 k 0 1 0) (0, 0) _ hq.out Tryz.underlying36 rfl ev_size ?_)
  refine (HR.out _).mono ?_
  rintro _ w6 ⟨rfl, x6⟩
  go_wp2_with fail
  go_ret
  exact ⟨rfl, HX.out.trans x6⟩
set_option maxRecDepth 20000 in
set_option maxHeartbeats 2000000 in
theorem hasv_any (fb : Nat) (k : Int) (w : World) (hf : w.cell? ⟨fb, 0, none⟩ = some (.func (.func 70) #[] #[])) :
    Calls Tryz.prog 93 #[.int .i64 k, .pointer (some ⟨fb, 0, none⟩)] w fun e w' => e = .returned (.bool (decide (rightE ⟨0, k, 0, 0, 1⟩))) ∧ Ext w w' := by
  have h := (St.start noB w).alloc (evA 0 k 0 0 0) 36
  have hf2 := h.ends.cell hf
  change World.cell? (w.alloc (.cells #[.int .i64 0, .int .i64 k, .int .i64 0, .int .u64 0, .int .u64 0] 36)) ⟨fb, 0, none⟩ = _ at hf2
  change St noB w (w.alloc (.cells #[.int .i64 0, .int .i64 k, .int .i64 0, .int .u64 0, .int .u64 0] 36)) [blkT w.heap.size (evA 0 k 0 0 0) 36] at h
  clear hf
  have c2 : _ = some (Value.int .i64 0) := cell_of_heap h.blk 2
  have c3 : _ = some (Value.int .u64 0) := cell_of_heap h.blk 3
  have c4 : _ = some (Value.int .u64 0) := cell_of_heap h.blk 4
  have f2 := free_of_heap h.blk 2
  have f3 := free_of_heap h.blk 3
  have f4 := free_of_heap h.blk 4
  have HT := Lib.hid (turnvA w.heap.size _ _ c4 f4)
  have h2 := h.set 4 (.int .u64 1)
  change St noB w _ [blkT w.heap.size (evA 0 k 0 0 1) 36] at h2
  have hq := Lib.hid h2.blk
  have HX := Lib.hid ((St.start noB w).alloc (evA 0 k 0 0 1) 36).ends
  clear h h2 c2 c3 c4 f2 f3 f4
  have HR := Lib.hid (fun w => right_any w ⟨0, k, 0, 0, 1⟩)
  generalize decide (rightE ⟨0, k, 0, 0, 1⟩) = d at HR ⊢
  go_enter Tryz.func93, Tryz.ntmps93
  go_wp2_with fail
  refine HT.out.mono ?_
  rintro _ _ ⟨rfl, rfl⟩
  go_wp2_with (refine wpList_load_row rfl _ _ rfl w.heap.size rfl 36 (evA 0 k 0 0 1) (0, 0) _ hq.out Tryz.underlying36 rfl ev_size ?_)
  refine (HR.out _).mono ?_
  rintro _ w6 ⟨rfl, x6⟩
  go_wp2_with fail
  go_ret
  exact ⟨rfl, HX.out.trans x6⟩
end Go.Proofs.YtjdglpngcdcneaaGreat
