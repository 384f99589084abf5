/- awake of layer 3's laws. -/
import Derived.Test.YtkjnpjkfagdegaaDRead
namespace Go.Proofs.Ytkjnpjkfagdegaa
open Go.RowKit
set_option linter.unusedVariables false
set_option linter.unusedSimpArgs false
def sD0 : ByteArray := ⟨#[3, 10, 4, 1]⟩
theorem d0a : drl sD0.data.toList 0 3 = ([5, 7, 6], 0, 4) := by decide
theorem d0b : drl sD0.data.toList 0 2 = ([], 4, 1) := by decide
theorem d576 : deltas [5, 7, 6] = [10, 4, 1] := by decide
theorem s576 : sums [10, 4, 1] = [5, 7, 6] := by decide
theorem p576 : (⟨(vbl (deltas [5, 7, 6])).toArray⟩ : ByteArray) = sD0 := by
  rw [d576]
  simp only [vbl, vbs, List.length_cons, List.length_nil, List.flatMap_cons, List.flatMap_nil]
  rw [vb_small (by omega), vb_small (by omega), vb_small (by omega), vb_small (by omega)]
  rfl
/-- three numbers, laid out -/
theorem nrow3 {w : World} {b : Nat} {x y z : Nat} {t : TypeId} (h : w.heap[b]? = some (.cells #[Value.int IntKind.u64 x, Value.int IntKind.u64 y, Value.int IntKind.u64 z] t (0, 0))) : NRow w (some ⟨b, 0, none⟩) [x, y, z] := by
  intro i hi
  refine ⟨_, _, rfl, ?_⟩
  rw [cell_of_heap h]
  have : i = 0 ∨ i = 1 ∨ i = 2 := by have : i < 3 := hi; omega
  rcases this with rfl | rfl | rfl <;> rfl
theorem allLt3 (x y z : Nat) (h : x < 256 ∧ y < 256 ∧ z < 256) : AllLt [x, y, z] := by
  intro i hi
  have : i = 0 ∨ i = 1 ∨ i = 2 := by have : i < 3 := hi; omega
  rcases this with rfl | rfl | rfl <;> (simp; omega)
set_option maxRecDepth 20000 in
set_option maxHeartbeats 4000000 in
theorem dawake_any (w : World) :
    Calls Try.prog 8 #[] w fun e w' => e = .returned (.bool true) ∧ Ext w w' := by
  go_enter Try.func8, Try.ntmps8
  go_wp2_with fail
  refine (new_st (St.start noB w) sD0).mono ?_
  rintro e w1 ⟨rfl, h1⟩
  generalize w.heap.size = x at h1 ⊢
  go_wp2_with fail
  refine (dread_st h1 (by decide) (by decide) 3 (by omega)).mono ?_
  rintro e w2 ⟨v2, rfl, h2⟩
  rw [d0a] at h2 ⊢
  clear h1
  have h2 := h2.swap.drop
  obtain ⟨A, c, rfl⟩ := h2.own.form
  go_wp2_with fail
  refine (new_st h2 sD0).mono ?_
  rintro e w3 ⟨rfl, h3⟩
  generalize w2.heap.size = x3 at h3 ⊢
  clear h2
  go_wp2_with fail
  refine (dread_st h3 (by decide) (by decide) 2 (by omega)).mono ?_
  rintro e w4 ⟨v4, rfl, h4⟩
  rw [d0b] at h4 ⊢
  have h4 := h4.drop.drop
  clear h3
  go_wp2_with fail
  refine (zig_any (-2) (by omega) _).mono ?_
  rintro e w5 ⟨rfl, rfl⟩
  rw [show zigI (-2) = 3 from by decide]
  go_wp2_with fail
  refine (zag_any 3 (by omega) _).mono ?_
  rintro e w5 ⟨rfl, rfl⟩
  rw [show zagI 3 = -2 from by decide]
  go_wp2_with fail
  have k5 := h4.alloc #[Value.int IntKind.u64 5, Value.int IntKind.u64 7, Value.int IntKind.u64 6] 22
  refine (deltas_st k5 (some ⟨w4.heap.size, 0, none⟩) 3 [5, 7, 6] (by decide) (nrow3 k5.blk) (allLt3 _ _ _ (by omega))).mono ?_
  rintro e w6 ⟨g6, rfl, h6, x6⟩
  rw [d576] at h6
  have h6 := h6.swap.drop
  clear h4 k5
  go_wp2_with fail
  have k7 := h6.alloc #[Value.int IntKind.u64 10, Value.int IntKind.u64 4, Value.int IntKind.u64 1] 22
  refine (nsame_any (some ⟨g6, 0, none⟩) (some ⟨w6.heap.size, 0, none⟩) 3 3 [10, 4, 1] [10, 4, 1] _ (Own.nrow k7.swap.own rfl) (nrow3 k7.blk) (by decide) (by decide)).mono ?_
  rintro e w7 ⟨rfl, x7⟩
  have h7 := (k7.ext x7).drop.drop
  clear h6 k7
  go_wp2_with fail
  have k8 := h7.alloc #[Value.int IntKind.u64 10, Value.int IntKind.u64 4, Value.int IntKind.u64 1] 22
  refine (sums_st k8 (some ⟨w7.heap.size, 0, none⟩) 3 [10, 4, 1] (by decide) (nrow3 k8.blk) (allLt3 _ _ _ (by omega))).mono ?_
  rintro e w8 ⟨g8, rfl, h8, x8⟩
  rw [s576] at h8
  have h8 := h8.swap.drop
  clear h7 k8
  go_wp2_with fail
  have k9 := h8.alloc #[Value.int IntKind.u64 5, Value.int IntKind.u64 7, Value.int IntKind.u64 6] 22
  refine (nsame_any (some ⟨g8, 0, none⟩) (some ⟨w8.heap.size, 0, none⟩) 3 3 [5, 7, 6] [5, 7, 6] _ (Own.nrow k9.swap.own rfl) (nrow3 k9.blk) (by decide) (by decide)).mono ?_
  rintro e w9 ⟨rfl, x9⟩
  have h9 := (k9.ext x9).drop.drop
  clear h8 k9
  go_wp2_with fail
  have k10 := h9.alloc #[Value.int IntKind.u64 5, Value.int IntKind.u64 7, Value.int IntKind.u64 6] 22
  refine (dprint_any (some ⟨w9.heap.size, 0, none⟩) 3 [5, 7, 6] _ (by decide) (nrow3 k10.blk) (allLt3 _ _ _ (by omega))).mono ?_
  rintro e w10 ⟨rfl, x10⟩
  rw [p576]
  have hs1 : sD0.toList = [3, 10, 4, 1] := by rw [ByteArray.toList_eq]; rfl
  have h10 := (k10.ext x10).drop
  clear h9 k10
  go_wp2_with fail
  have k11 := h10.alloc #[Value.int IntKind.u64 5, Value.int IntKind.u64 7, Value.int IntKind.u64 6] 22
  refine (nsame_any A (some ⟨w10.heap.size, 0, none⟩) c 3 [5, 7, 6] [5, 7, 6] _ (Own.nrow k11.swap.own rfl) (nrow3 k11.blk) (by decide) (by decide)).mono ?_
  rintro e w11 ⟨rfl, x11⟩
  go_wp2_with fail
  go_ret
  exact ⟨rfl, (k11.ext x11).ends⟩
end Go.Proofs.Ytkjnpjkfagdegaa
