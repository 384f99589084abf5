/- awake of layer 4's laws. -/
import Derived.Test.YtpdhfmkaeemadaaRRead3
namespace Go.Proofs.Ytpdhfmkaeemadaa
open Go.RowKit Go.WideShapes
set_option linter.unusedVariables false
set_option linter.unusedSimpArgs false
def sR0 : ByteArray := ⟨#[2, 7, 2, 0, 0]⟩
def sR1 : ByteArray := ⟨#[2, 7, 2, 7, 0]⟩
def lR : List Nat := [7, 7, 7, 0]
def pR : List Rn := [(7, 3), (0, 1)]
def pB : List Rn := [(1, 1), (1, 1)]
theorem pk_lR : pk lR = pR := by decide
theorem unR4 : unI pR 4 = (lR, 0) := by decide
theorem unR3 : unI pR 3 = ([], 4) := by decide
theorem unB : unI pB 9 = ([], 3) := by decide
theorem rrR0 : rrl sR0.data.toList 0 4 = (lR, 0, 5) := by decide
theorem rrR1 : rrl sR1.data.toList 0 9 = ([], 3, 5) := by decide
theorem prR : (⟨(rbl pR).toArray⟩ : ByteArray) = sR0 := by
  simp only [rbl, rbs, pR, List.length_cons, List.length_nil, List.flatMap_cons, List.flatMap_nil]
  repeat rw [vb_small (by omega)]
  rfl
theorem allLR : AllLt lR := by
  intro i hi
  have : i = 0 ∨ i = 1 ∨ i = 2 ∨ i = 3 := by have : i < 4 := hi; omega
  rcases this with rfl | rfl | rfl | rfl <;> (simp [lR])
theorem allPR : AllR pR := by
  intro i hi
  have : i = 0 ∨ i = 1 := by have : i < 2 := hi; omega
  rcases this with rfl | rfl <;> (simp [pR])
theorem allPB : AllR pB := by
  intro i hi
  have : i = 0 ∨ i = 1 := by have : i < 2 := hi; omega
  rcases this with rfl | rfl <;> (simp [pB])
theorem nrowL {w : World} {b : Nat} {t : TypeId} (h : w.heap[b]? = some (.cells #[Value.int IntKind.u64 7, Value.int IntKind.u64 7, Value.int IntKind.u64 7, Value.int IntKind.u64 0] t (0, 0))) : NRow w (some ⟨b, 0, none⟩) lR := by
  intro i hi
  refine ⟨_, _, rfl, ?_⟩
  rw [cell_of_heap h]
  have : i = 0 ∨ i = 1 ∨ i = 2 ∨ i = 3 := by have : i < 4 := hi; omega
  rcases this with rfl | rfl | rfl | rfl <;> rfl
theorem rrowB {w : World} {b : Nat} {t : TypeId} (h : w.heap[b]? = some (.cells #[Value.int IntKind.u64 1, Value.int IntKind.u64 1, Value.int IntKind.u64 1, Value.int IntKind.u64 1] t (0, 0))) : RRow w (some ⟨b, 0, none⟩) pB := by
  intro i hi
  have : i = 0 ∨ i = 1 := by have : i < 2 := hi; omega
  rcases this with rfl | rfl
  · exact ⟨b, 0, rfl, by rw [cell_of_heap h]; rfl, by rw [cell_of_heap h]; rfl⟩
  · exact ⟨b, 0, rfl, by rw [cell_of_heap h]; rfl, by rw [cell_of_heap h]; rfl⟩
set_option maxRecDepth 20000 in
set_option maxHeartbeats 4000000 in
theorem rawake_any (w : World) :
    Calls Try.prog 9 #[] w fun e w' => e = .returned (.bool true) ∧ Ext w w' := by
  go_enter Try.func9, Try.ntmps9
  go_wp2_with fail
  have h1 := (St.start noB w).alloc #[Value.int IntKind.u64 7, Value.int IntKind.u64 7, Value.int IntKind.u64 7, Value.int IntKind.u64 0] 34
  refine (pack_st h1 (some ⟨w.heap.size, 0, none⟩) 4 lR 4 rfl (by omega) (nrowL h1.blk) allLR).mono ?_
  rintro e w2 ⟨A2, n2, c2, rfl, hn2, h2⟩
  rw [pk_lR] at hn2 h2
  obtain rfl : n2 = 2 := hn2
  generalize w.heap.size = x at h2 ⊢
  clear h1
  go_wp2_with fail
  refine (unpack_st h2 A2 c2 2 pR rfl (by omega) allPR (fun w' hh => Own.rrow hh.own rfl) 4 (by omega)).mono ?_
  rintro e w3 ⟨v3, rfl, h3⟩
  rw [unR4] at h3 ⊢
  obtain ⟨A3, c3, rfl⟩ := h3.own.form
  clear h2
  go_wp2_with fail
  have h4 := h3.swap
  refine (unpack_st h4 A2 c2 2 pR rfl (by omega) allPR (fun w' hh => Own.rrow hh.own rfl) 3 (by omega)).mono ?_
  rintro e w4 ⟨v4, rfl, h5⟩
  rw [unR3] at h5 ⊢
  have h5 := h5.drop
  clear h3 h4
  go_wp2_with fail
  have h6 := h5.alloc #[Value.int IntKind.u64 1, Value.int IntKind.u64 1, Value.int IntKind.u64 1, Value.int IntKind.u64 1] 36
  refine (unpack_st h6 (some ⟨w4.heap.size, 0, none⟩) 2 2 pB rfl (by omega) allPB (fun w' hh => rrowB hh.blk) 9 (by omega)).mono ?_
  rintro e w6 ⟨v6, rfl, h7⟩
  rw [unB] at h7 ⊢
  have h8 := h7.drop.drop
  clear h5 h6 h7
  go_wp2_with fail
  refine (new_st (St.start noB w6) sR0).mono ?_
  rintro e w7 ⟨rfl, r1⟩
  go_wp2_with fail
  refine (runread_st r1 (by decide) (by decide) 4 (by omega)).mono ?_
  rintro e w8 ⟨v8, rfl, r2⟩
  rw [rrR0] at r2 ⊢
  obtain ⟨A8, c8, rfl⟩ := r2.own.form
  have h10 := h8.ext r2.ends
  clear r1 h8
  go_wp2_with fail
  refine (new_st (St.start noB w8) sR1).mono ?_
  rintro e w9 ⟨rfl, q1⟩
  go_wp2_with fail
  refine (runread_st q1 (by decide) (by decide) 9 (by omega)).mono ?_
  rintro e w10 ⟨v10, rfl, q2⟩
  rw [rrR1] at q2 ⊢
  have h11 := h10.ext q2.ends
  have r3 := r2.ext q2.ends
  clear q1 q2 h10 r2
  obtain ⟨g2, c2', hA2, _⟩ := h11.own.slice (by omega)
  cases hA2
  have k0 := h11.own.cell 0 (by omega)
  have k1 := h11.own.cell 1 (by omega)
  have k2 := h11.own.cell 2 (by omega)
  have k3 := h11.own.cell 3 (by omega)
  change _ = some (Value.int .u64 7) at k0
  change _ = some (Value.int .u64 3) at k1
  change _ = some (Value.int .u64 0) at k2
  change _ = some (Value.int .u64 1) at k3
  go_wp2_with fail
  refine (nsame_any A3 (some ⟨x, 0, none⟩) c3 4 lR lR _ (Own.nrow h11.swap.own rfl) (nrowL (h11.pull 2).blk) (by decide) (by decide)).mono ?_
  rintro e w11 ⟨rfl, x11⟩
  have h12 := h11.ext x11
  have r4 := r3.ext x11
  clear h11 r3 k0 k1 k2 k3
  rw [decide_eq_true (rfl : lR = lR)]
  go_wp2_with fail
  refine (runprint_any (some ⟨x, 0, none⟩) 4 4 lR _ rfl (by omega) (nrowL (h12.pull 2).blk) allLR).mono ?_
  rintro e w12 ⟨rfl, x12⟩
  rw [pk_lR, prR]
  have hs1 : sR0.toList = [2, 7, 2, 0, 0] := by rw [ByteArray.toList_eq]; rfl
  have h13 := h12.ext x12
  have r5 := r4.ext x12
  clear h12 r4
  go_wp2_with fail
  refine (nsame_any A8 (some ⟨x, 0, none⟩) c8 4 lR lR _ (Own.nrow r5.own rfl) (nrowL (h13.pull 2).blk) (by decide) (by decide)).mono ?_
  rintro e w13 ⟨rfl, x13⟩
  rw [decide_eq_true (rfl : lR = lR)]
  go_wp2_with fail
  go_ret
  exact ⟨rfl, (h13.ext x13).ends⟩
end Go.Proofs.Ytpdhfmkaeemadaa
