/- Layer 7's laws: HuffLengths. -/
import Derived.Test.YtclhmlgbhlmekaaHWei
import Derived.Test.YtclhmlgbhlmekaaHRefW
import Derived.Test.YtclhmlgbhlmekaaHEqArr
namespace Go.Proofs.Ytclhmlgbhlmekaa
open Go.RowKit
set_option linter.unusedVariables false
set_option linter.unusedSimpArgs false
set_option linter.unusedSectionVars false
set_option maxRecDepth 20000 in
set_option maxHeartbeats 4000000 in
theorem huffLengths_walk (A : Option Addr) (ca : Nat) (l : List Nat) (w : World) (ra : ArgRow (repU .u64 18446744073709551616) 1 w A l.length l) (hpa : l.length ≤ 9223372036854775807) :
    Calls Try.prog 3 #[.slice A l.length ca] w fun e w' => e = .returned (.bool true) ∧ Ext w w' := by
  have HA := Lib.hid hawake_any
  by_cases h0 : l.length ≤ 60
  · have hal : AllLt l := fun i hi => ra.small i hi
    have hr := ra.nrow
    clear ra
    obtain ⟨m, hm⟩ : ∃ m, l.length = m := ⟨_, rfl⟩
    rw [hm] at hpa h0 ⊢
    have hn : ¬ (60 : Int) < (m : Int) := by omega
    obtain ⟨W, hW⟩ : ∃ W, W = weiF l m := ⟨_, rfl⟩
    have hWlt : ∀ i, W i < 18446744073709551616 := by rw [hW]; exact weiF_lt hal m (by omega)
    have HWe := Lib.hid (fun w (hr : NRow w A l) => weights_any A ca m l w hm (by omega) hr W hW)
    have HLn := Lib.hid (fun w => lengths_any W hWlt w)
    have HRn := Lib.hid (fun w => rlengths_any W hWlt w)
    generalize lenT W = L at *
    have heq := fun w => eql_arr8 L w
    clear hal hm hW hWlt
    go_enter Try.func3, Try.ntmps3
    go_wp2_with fail
    refine (HA.out w).mono ?_
    rintro _ w1 ⟨rfl, x1⟩
    have hr1 := hr.ext x1
    go_wp2_with fail
    refine (HWe.out w1 hr1).mono ?_
    rintro _ w2 ⟨rfl, x2⟩
    have h1 := ((St.start noB w).ext (x1.trans x2)).alloc (tabV .u64 (fun _ => 0)) 25
    clear hr hr1 HWe x1 x2
    have hz := zero64
    have hq := Lib.hid h1.blk
    obtain ⟨w3, hw3, h3⟩ := name_world (P := fun x => St noB w x _) (h1.row (tabV .u64 W))
    have HW3 := Lib.hid hw3
    have hq3 := Lib.hid h3.blk
    clear h1 hw3
    go_wp2_with (first
      | (with_reducible refine (show wpList _ _ _ _ _ (World.alloc _ _) from ?_); refine wpList_store_row rfl _ _ _ rfl w2.heap.size (tabV .u64 W) rfl rfl 25 (tabV .u64 (fun _ => 0)) hq.out (size64 _) (tabV_sizes _ _ _) (tabV_one _ _) ?_; rw [HW3.out])
      | (refine wpList_load_row rfl _ _ rfl w2.heap.size rfl 25 (tabV .u64 W) (0, 0) (.array 256 24) hq3.out Try.underlying25 rfl (size64 _) ?_))
    generalize w2.heap.size = wb at hq3 h3 ⊢
    have HX := Lib.hid h3.ends
    clear hq HW3 hz h3
    have hS : (fun w' : World => Ext w3 w') w3.drew := (Mut.refl noB w3).drew
    refine wp_region_held (S := fun w' : World => Ext w3 w') (by kernel_rfl) ?_
    change wpAnyH _ _ _ _ _ _ _ _ (World.drew _)
    refine wpAnyH_take (i := 0) (v := .agg (tabV .u64 W)) rfl (by kernel_rfl) (by kernel_rfl) (by kernel_rfl) (fun _ _ _ h => h) (Or.inl ⟨by rfl, fun w' hS' => exec_load_row 25 _ rfl wb rfl 25 _ (0, 0) (.array 256 24) (Ext.heap hS' hq3.out) Try.underlying25 rfl (size64 _)⟩) hS ?_
    refine wpAnyH_take (i := 2) (v := .agg (tabV .u64 W)) rfl (by kernel_rfl) (by kernel_rfl) (by kernel_rfl) (fun _ _ _ h => h) (Or.inl ⟨by rfl, fun w' hS' => exec_load_row 25 _ rfl wb rfl 25 _ (0, 0) (.array 256 24) (Ext.heap hS' hq3.out) Try.underlying25 rfl (size64 _)⟩) hS ?_
    refine wpAnyH_ready (rs := [1]) (by kernel_rfl) (by simp) ?_
    refine AllReadyH.cons rfl (fun K hK => ?_) AllReadyH.nil
    go_simp
    refine (HLn.out _).mono ?_
    rintro _ w4 ⟨rfl, x4⟩
    replace hS : (fun w' : World => Ext w3 w') w4 := Mut.trans ((Mut.refl noB w3).drew) x4
    refine hK.out _ _ hS (fun _ => ?_)
    clear hK K
    refine wpAnyH_ready (rs := [3]) (by kernel_rfl) (by simp) ?_
    refine AllReadyH.cons rfl (fun K hK => ?_) AllReadyH.nil
    go_simp
    refine (HRn.out _).mono ?_
    rintro _ w5 ⟨rfl, x5⟩
    replace hS : (fun w' : World => Ext w3 w') w5 := Mut.trans hS x5
    refine hK.out _ _ hS (fun _ => ?_)
    clear hK K
    refine wpAnyH_take (i := 4) (v := ?_) rfl (by kernel_rfl) (by kernel_rfl) (by kernel_rfl) (fun _ _ _ h => h) (Or.inl ⟨by rfl, ?_⟩) hS ?_
    rotate_left
    · (intro w' hS'; go_simp; try with_reducible rfl)
    refine wpAnyH_take (i := 5) (v := ?_) rfl (by kernel_rfl) (by kernel_rfl) (by kernel_rfl) (fun _ _ _ h => h) (Or.inl ⟨by rfl, ?_⟩) hS ?_
    rotate_left
    · (intro w' hS'; go_simp; try with_reducible rfl)
    refine wpAnyH_done (by kernel_rfl) ?_ _
    go_wp2_with fail
    go_ret
    exact ⟨rfl, HX.out.trans hS⟩
  · have hn : (60 : Int) < (l.length : Int) := by omega
    clear h0 ra
    generalize l.length = m at *
    go_enter Try.func3, Try.ntmps3
    go_wp2_with fail
    refine (HA.out w).mono ?_
    rintro _ w1 ⟨rfl, x1⟩
    go_wp2_with fail
    refine (HA.out w1).mono ?_
    rintro _ w2 ⟨rfl, x2⟩
    go_wp2_with fail
    go_ret
    exact ⟨rfl, x1.trans x2⟩
end Go.Proofs.Ytclhmlgbhlmekaa
