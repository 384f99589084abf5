/- Layer 7's laws: weights. -/
import Derived.Test.YtclhmlgbhlmekaaHh
namespace Go.Proofs.Ytclhmlgbhlmekaa
open Go.RowKit
set_option linter.unusedVariables false
set_option linter.unusedSimpArgs false
set_option linter.unusedSectionVars false
/-- the weights of a list: number i goes to byte 37 i -/
def weiF (l : List Nat) : Nat → Nat → Nat
  | 0 => fun _ => 0
  | i + 1 => if i < 256 then upd (weiF l i) (i * 37 % 256) (l.getD i 0) else weiF l i
theorem weiF_lt {l : List Nat} (h : AllLt l) : ∀ i, i ≤ l.length → ∀ j, weiF l i j < 18446744073709551616
  | 0, _, j => (show (0 : Nat) < 18446744073709551616 by decide)
  | i + 1, hi, j => by
    have ih := weiF_lt h i (by omega)
    rw [weiF]
    split
    · unfold upd
      split
      · exact h i (by omega)
      · exact ih j
    · exact ih j
set_option maxRecDepth 20000 in
set_option maxHeartbeats 2000000 in
theorem weights_any (A : Option Addr) (ca m : Nat) (l : List Nat) (w : World) (hm : l.length = m) (hl : m ≤ 1000000) (hr : NRow w A l) (R : Nat → Nat) (hR : R = weiF l m) :
    Calls Try.prog 11 #[.slice A m ca] w fun e w' => e = .returned (.agg (tabV .u64 R)) ∧ Ext w w' := by
  have hz := zero64
  have h1 := ((St.start noB w).alloc (tabV .u64 (fun _ => 0)) 25).alloc (tabV .u64 (fun _ => 0)) 25
  rw [size_alloc'] at h1
  have HF := Lib.hid hR
  clear hR
  go_enter Try.func11, Try.ntmps11
  go_wp2_with fail
  generalize (w.alloc (.cells (tabV .u64 (fun _ => 0)) 25)).alloc (.cells (tabV .u64 (fun _ => 0)) 25) = w1 at h1 ⊢
  generalize w.heap.size + 1 = g at h1 ⊢
  generalize w.heap.size = ob at h1 ⊢
  clear hz
  have HM := Lib.hid hm
  clear hm
  go_loopw [8] (fun v8 wr => ∃ i : Nat, v8 = .int .i64 i ∧ i ≤ m ∧ St noB w wr [blkT g (tabV .u64 (weiF l i)) 25, blkT ob (tabV .u64 (fun _ => 0)) 25]) (fun v8 _ => m - (intOf v8).toNat)
  case atStart => exact ⟨0, rfl, Nat.zero_le _, h1⟩
  case round =>
    clear h1
    obtain ⟨i, rfl, hi, h⟩ := hrel
    by_cases hlt : i < m
    · have hlz : (i : Int) < (m : Int) := by omega
      obtain ⟨b, off, rfl, c0⟩ := (hr.ext h.ends) i (by rw [HM.out]; exact hlt)
      by_cases h256 : i < 256
      · have hl2 : (i : Int) < 256 := by omega
        have hw37 : (i : Int) * 37 ≤ 9223372036854775807 := by omega
        have E : Hid (weiF l (i + 1) = upd (weiF l i) (i * 37 % 256) (l.getD i 0)) := Lib.hid (by rw [weiF, if_pos h256])
        obtain ⟨y, hy⟩ : ∃ y, i * 37 % 256 = y := ⟨_, rfl⟩
        have hy8 : y < 256 := by rw [← hy]; exact Nat.mod_lt _ (by omega)
        have hrem : ((i : Int) * 37).tmod 256 = (y : Int) := by
          rw [Int.tmod_eq_emod_of_nonneg (by omega)]; omega
        have k0 := cell_of_heap h.blk y
        rw [tabV_get _ _ _ hy8] at k0
        have f0 := free_of_heap h.blk y
        have h2 := h.set y (.int .u64 ((l.getD i 0 : Nat) : Int))
        rw [tabV_set _ _ _ _ hy8] at h2
        rw [hy] at E
        rw [← E.out] at h2
        clear h E hy
        generalize l.getD i 0 = x at *
        generalize weiF l i y = z at *
        have hy9 : (y : Int) < 256 := by omega
        go_wp2_with fail
        exact ⟨⟨i + 1, by go_num, by omega, h2⟩, by simp only [intOf]; omega⟩
      · have hl2 : ¬ (i : Int) < 256 := by omega
        have E : weiF l (i + 1) = weiF l i := by rw [weiF, if_neg h256]
        rw [← E] at h
        clear E
        generalize l.getD i 0 = x at *
        go_wp2_with fail
        exact ⟨⟨i + 1, by go_num, by omega, h⟩, by simp only [intOf]; omega⟩
    · obtain rfl : i = m := by omega
      have hlz : ¬ (i : Int) < (i : Int) := by omega
      rw [← HF.out] at h
      have hb := Lib.hid h.blk
      have h2 := h.swap.row (tabV .u64 R)
      have hq := Lib.hid h.swap.blk
      clear h
      go_wp2_with (first
        | (refine wpList_load_row rfl _ _ rfl g rfl 25 (tabV .u64 R) (0, 0) (.array 256 24) hb.out Try.underlying25 rfl (size64 _) ?_)
        | (refine wpList_store_row rfl _ _ _ rfl ob (tabV .u64 R) rfl rfl 25 (tabV .u64 (fun _ => 0)) hq.out (size64 _) (tabV_sizes _ _ _) (tabV_one _ _) ?_))
      refine bodyPost_ret_by (v := .agg (tabV .u64 R)) (results_cell_row rfl _ _ ob 25 (tabV .u64 R) (0, 0) (.array 256 24) rfl h2.blk Try.underlying25 rfl (size64 _)) rfl ?_
      exact ⟨rfl, h2.ends⟩
end Go.Proofs.Ytclhmlgbhlmekaa
