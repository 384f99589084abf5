/- awake of layer 2's laws. -/
import Derived.Test.YtjoalilibalklaaVList
namespace Go.Proofs.Ytjoalilibalklaa
open Go.RowKit
set_option linter.unusedVariables false
set_option linter.unusedSimpArgs false
def sV0 : ByteArray := ⟨#[172, 2, 128, 0, 7]⟩
def sV1 : ByteArray := ⟨#[2, 5, 6]⟩
def sV2 : ByteArray := ⟨#[2, 5]⟩
theorem v0a : vrd sV0.data.toList 0 = (300, 0, 2) := by decide
theorem v0b : vrd sV0.data.toList 2 = (0, 3, 4) := by decide
theorem v1a : vrl sV1.data.toList 0 2 = ([5, 6], 0, 3) := by decide
theorem v1b : vrl sV1.data.toList 0 1 = ([], 4, 1) := by decide
theorem v2a : vrl sV2.data.toList 0 2 = ([], 2, 2) := by decide
theorem vb300 : vb 300 = [172, 2] := by rw [vb_big (by omega), vb_small (by omega)]; rfl
set_option maxRecDepth 20000 in
set_option maxHeartbeats 4000000 in
theorem vawake_any (w : World) :
    Calls Try.prog 9 #[] w fun e w' => e = .returned (.bool true) ∧ Ext w w' := by
  go_enter Try.func9, Try.ntmps9
  go_wp2_with fail
  refine (new_st (St.start noB w) sV0).mono ?_
  rintro e w1 ⟨rfl, h1⟩
  generalize w.heap.size = x at h1 ⊢
  go_wp2_with fail
  refine (vread_st h1 (by decide) (by decide)).mono ?_
  rintro e w2 ⟨rfl, h2⟩
  rw [v0a] at h2 ⊢
  clear h1
  go_wp2_with fail
  refine (vread_st h2 (by decide) (by decide)).mono ?_
  rintro e w3 ⟨rfl, h3⟩
  rw [v0b] at h3 ⊢
  clear h2
  go_wp2_with fail
  refine (new_st h3 sV1).mono ?_
  rintro e w4 ⟨rfl, h4⟩
  generalize w3.heap.size = x1 at h4 ⊢
  clear h3
  go_wp2_with fail
  refine (vreadlist_st h4 (by decide) (by decide) 2 (by omega)).mono ?_
  rintro e w5 ⟨v5, rfl, h5⟩
  rw [v1a] at h5 ⊢
  have h5 := h5.swap.drop
  clear h4
  go_wp2_with fail
  refine (new_st h5 sV1).mono ?_
  rintro e w6 ⟨rfl, h6⟩
  generalize w5.heap.size = x2 at h6 ⊢
  clear h5
  go_wp2_with fail
  refine (vreadlist_st h6 (by decide) (by decide) 1 (by omega)).mono ?_
  rintro e w7 ⟨v7, rfl, h7⟩
  rw [v1b] at h7 ⊢
  have h7 := h7.drop.drop
  clear h6
  go_wp2_with fail
  refine (new_st h7 sV2).mono ?_
  rintro e w8 ⟨rfl, h8⟩
  generalize w7.heap.size = x3 at h8 ⊢
  clear h7
  go_wp2_with fail
  refine (vreadlist_st h8 (by decide) (by decide) 2 (by omega)).mono ?_
  rintro e w9 ⟨v9, rfl, h9⟩
  rw [v2a] at h9 ⊢
  have h9 := h9.drop.drop
  clear h8
  go_wp2_with fail
  refine (vread_nil _).mono ?_
  rintro e w10 ⟨rfl, rfl⟩
  obtain ⟨A, c, rfl⟩ := h9.own.form
  go_wp2_with fail
  refine (vprint_any 300 (by omega) _).mono ?_
  rintro e w11 ⟨rfl, x11⟩
  have h10 := h9.ext x11
  rw [vb300]
  clear h9
  go_wp2_with fail
  refine (vsize_any 300 (by omega) _).mono ?_
  rintro e w12 ⟨rfl, rfl⟩
  rw [vb300]
  go_wp2_with fail
  refine (at_any h10.swap.rd).mono ?_
  rintro e w12 ⟨rfl, rfl⟩
  go_wp2_with fail
  have h12 := h10.alloc #[Value.int IntKind.u64 5, Value.int IntKind.u64 6] 22
  have hr1 := Own.nrow (l := [5, 6]) (A := A) (cap := c) (n := 2) h12.swap.own rfl
  have hr2 : NRow (w11.alloc (.cells #[Value.int IntKind.u64 5, Value.int IntKind.u64 6] 22)) (some ⟨w11.heap.size, 0, none⟩) [5, 6] := by
    intro i hi
    refine ⟨_, _, rfl, ?_⟩
    rw [cell_of_heap h12.blk]
    have : i = 0 ∨ i = 1 := by have : i < 2 := hi; omega
    rcases this with rfl | rfl <;> rfl
  refine (nsame_any A (some ⟨w11.heap.size, 0, none⟩) c 2 [5, 6] [5, 6] _ hr1 hr2 (by decide) (by decide)).mono ?_
  rintro e w13 ⟨rfl, x13⟩
  go_wp2_with fail
  go_ret
  exact ⟨rfl, (h12.ext x13).ends⟩
end Go.Proofs.Ytjoalilibalklaa
