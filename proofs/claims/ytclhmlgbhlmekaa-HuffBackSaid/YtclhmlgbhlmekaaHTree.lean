/- Layer 7: the heap of trees in memory: Less, Len. -/
import Derived.Test.YtclhmlgbhlmekaaFlat
import Derived.Test.YtclhmlgbhlmekaaHLess
import Derived.Deep.RegionHeld
namespace Go.Proofs.Ytclhmlgbhlmekaa
open Go.RowKit
set_option linter.unusedVariables false
set_option linter.unusedSimpArgs false
/-- a tree's cells: its weight, its number, its bytes -/
def trC (vs : Nat → Value) (x : WN) : List Value := [.int .u64 x.1, .int .i64 x.2, vs x.2]
theorem trC_len (vs : Nat → Value) (x : WN) : (trC vs x).length = 3 := rfl
theorem hget_default (l : List WN) (i : Nat) : l.getD i default = hget l i := rfl
theorem tr_cells {w : World} {A : Option Addr} {n c : Nat} {vs : Nat → Value} {l : List WN} (h : Own w 50 3 (.slice A n c) n (l.flatMap (trC vs))) (hl : l.length = n) (h0 : 0 < n) :
    ∃ g, A = some ⟨g, 0, none⟩ ∧ ∀ i, i < n → w.cell? ⟨g, i * 3, none⟩ = some (.int .u64 (hget l i).1) ∧ w.cell? ⟨g, i * 3 + 1, none⟩ = some (.int .i64 (hget l i).2) ∧ w.cell? ⟨g, i * 3 + 2, none⟩ = some (vs (hget l i).2) := by
  obtain ⟨g, c', e, _⟩ := h.slice h0
  cases e
  refine ⟨g, rfl, fun i hi => ?_⟩
  have f := fun j (hj : j < 3) => flat_get (trC_len vs) l i (by omega) j hj
  have q0 := Own.cell h (i * 3) (by omega)
  have q1 := Own.cell h (i * 3 + 1) (by omega)
  have q2 := Own.cell h (i * 3 + 2) (by omega)
  rw [show i * 3 = i * 3 + 0 from rfl, f 0 (by omega)] at q0
  rw [f 1 (by omega)] at q1
  rw [f 2 (by omega)] at q2
  exact ⟨q0, q1, q2⟩
set_option maxRecDepth 20000 in
set_option maxHeartbeats 4000000 in
theorem less_own {w : World} {A : Option Addr} {n c : Nat} {vs : Nat → Value} {l : List WN} (h : Own w 50 3 (.slice A n c) n (l.flatMap (trC vs))) (hl : l.length = n) (hn : n ≤ 1000000) (i k : Nat) (hi : i < n) (hk : k < n) :
    Calls Try.prog 79 #[.slice A n c, .int .i64 i, .int .i64 k] w fun e w' => e = .returned (.bool (wlt (hget l i) (hget l k))) ∧ Ext w w' := by
  obtain ⟨g, rfl, hc⟩ := tr_cells h hl (by omega)
  obtain ⟨p0, p1, _⟩ := hc i hi
  obtain ⟨q0, q1, _⟩ := hc k hk
  have HO := Lib.hid (orI_lt (hget l i) (hget l k))
  generalize wlt (hget l i) (hget l k) = r at HO ⊢
  generalize hget l i = a at p0 p1 HO
  generalize hget l k = b at q0 q1 HO
  obtain ⟨wa, na⟩ := a
  obtain ⟨wb, nb⟩ := b
  simp only at p0 p1 q0 q1 HO
  have k1 : ∀ w', Ext w w' → w'.cell? ⟨g, i * 3, none⟩ = some (.int .u64 wa) := fun w' x => Ext.cell x p0
  have k2 : ∀ w', Ext w w' → w'.cell? ⟨g, i * 3 + 1, none⟩ = some (.int .i64 na) := fun w' x => Ext.cell x p1
  have k3 : ∀ w', Ext w w' → w'.cell? ⟨g, k * 3, none⟩ = some (.int .u64 wb) := fun w' x => Ext.cell x q0
  have k4 : ∀ w', Ext w w' → w'.cell? ⟨g, k * 3 + 1, none⟩ = some (.int .i64 nb) := fun w' x => Ext.cell x q1
  clear hc p0 p1 q0 q1 h hl
  have hS : Ext w w.drew := (Mut.refl noB w).drew
  go_enter Try.func79, Try.ntmps79
  go_wp2_with fail
  refine wp_region_held (S := fun w' => Ext w w') (by kernel_rfl) ?_
  change wpAnyH _ _ _ _ _ _ _ _ (World.drew _)
  refine wpAnyH_take (i := 0) (v := ?_) rfl (by kernel_rfl) (by kernel_rfl) (by kernel_rfl) (fun _ _ _ h => h) (Or.inl ⟨by rfl, ?_⟩) hS ?_
  rotate_left
  · (intro w' hS'; have j1 := k1 w' hS'; have j2 := k2 w' hS'; have j3 := k3 w' hS'; have j4 := k4 w' hS'; go_simp; try with_reducible rfl)
  refine wpAnyH_take (i := 1) (v := ?_) rfl (by kernel_rfl) (by kernel_rfl) (by kernel_rfl) (fun _ _ _ h => h) (Or.inl ⟨by rfl, ?_⟩) hS ?_
  rotate_left
  · (intro w' hS'; have j1 := k1 w' hS'; have j2 := k2 w' hS'; have j3 := k3 w' hS'; have j4 := k4 w' hS'; go_simp; try with_reducible rfl)
  refine wpAnyH_take (i := 2) (v := ?_) rfl (by kernel_rfl) (by kernel_rfl) (by kernel_rfl) (fun _ _ _ h => h) (Or.inl ⟨by rfl, ?_⟩) hS ?_
  rotate_left
  · (intro w' hS'; have j1 := k1 w' hS'; have j2 := k2 w' hS'; have j3 := k3 w' hS'; have j4 := k4 w' hS'; go_simp; try with_reducible rfl)
  refine wpAnyH_take (i := 3) (v := ?_) rfl (by kernel_rfl) (by kernel_rfl) (by kernel_rfl) (fun _ _ _ h => h) (Or.inl ⟨by rfl, ?_⟩) hS ?_
  rotate_left
  · (intro w' hS'; have j1 := k1 w' hS'; have j2 := k2 w' hS'; have j3 := k3 w' hS'; have j4 := k4 w' hS'; go_simp; try with_reducible rfl)
  refine wpAnyH_take (i := 4) (v := ?_) rfl (by kernel_rfl) (by kernel_rfl) (by kernel_rfl) (fun _ _ _ h => h) (Or.inl ⟨by rfl, ?_⟩) hS ?_
  rotate_left
  · (intro w' hS'; have j1 := k1 w' hS'; have j2 := k2 w' hS'; have j3 := k3 w' hS'; have j4 := k4 w' hS'; go_simp; try with_reducible rfl)
  refine wpAnyH_take (i := 5) (v := ?_) rfl (by kernel_rfl) (by kernel_rfl) (by kernel_rfl) (fun _ _ _ h => h) (Or.inl ⟨by rfl, ?_⟩) hS ?_
  rotate_left
  · (intro w' hS'; have j1 := k1 w' hS'; have j2 := k2 w' hS'; have j3 := k3 w' hS'; have j4 := k4 w' hS'; go_simp; try with_reducible rfl)
  refine wpAnyH_take (i := 6) (v := ?_) rfl (by kernel_rfl) (by kernel_rfl) (by kernel_rfl) (fun _ _ _ h => h) (Or.inl ⟨by rfl, ?_⟩) hS ?_
  rotate_left
  · (intro w' hS'; have j1 := k1 w' hS'; have j2 := k2 w' hS'; have j3 := k3 w' hS'; have j4 := k4 w' hS'; go_simp; try with_reducible rfl)
  refine wpAnyH_take (i := 7) (v := ?_) rfl (by kernel_rfl) (by kernel_rfl) (by kernel_rfl) (fun _ _ _ h => h) (Or.inl ⟨by rfl, ?_⟩) hS ?_
  rotate_left
  · (intro w' hS'; have j1 := k1 w' hS'; have j2 := k2 w' hS'; have j3 := k3 w' hS'; have j4 := k4 w' hS'; go_simp; try with_reducible rfl)
  refine wpAnyH_take (i := 8) (v := ?_) rfl (by kernel_rfl) (by kernel_rfl) (by kernel_rfl) (fun _ _ _ h => h) (Or.inl ⟨by rfl, ?_⟩) hS ?_
  rotate_left
  · (intro w' hS'; have j1 := k1 w' hS'; have j2 := k2 w' hS'; have j3 := k3 w' hS'; have j4 := k4 w' hS'; go_simp; try with_reducible rfl)
  refine wpAnyH_take (i := 9) (v := ?_) rfl (by kernel_rfl) (by kernel_rfl) (by kernel_rfl) (fun _ _ _ h => h) (Or.inl ⟨by rfl, ?_⟩) hS ?_
  rotate_left
  · (intro w' hS'; have j1 := k1 w' hS'; have j2 := k2 w' hS'; have j3 := k3 w' hS'; have j4 := k4 w' hS'; go_simp; try with_reducible rfl)
  refine wpAnyH_take (i := 11) (v := ?_) rfl (by kernel_rfl) (by kernel_rfl) (by kernel_rfl) (fun _ _ _ h => h) (Or.inl ⟨by rfl, ?_⟩) hS ?_
  rotate_left
  · (intro w' hS'; have j1 := k1 w' hS'; have j2 := k2 w' hS'; have j3 := k3 w' hS'; have j4 := k4 w' hS'; go_simp; try with_reducible rfl)
  refine wpAnyH_take (i := 12) (v := ?_) rfl (by kernel_rfl) (by kernel_rfl) (by kernel_rfl) (fun _ _ _ h => h) (Or.inl ⟨by rfl, ?_⟩) hS ?_
  rotate_left
  · (intro w' hS'; have j1 := k1 w' hS'; have j2 := k2 w' hS'; have j3 := k3 w' hS'; have j4 := k4 w' hS'; go_simp; try with_reducible rfl)
  refine wpAnyH_take (i := 13) (v := ?_) rfl (by kernel_rfl) (by kernel_rfl) (by kernel_rfl) (fun _ _ _ h => h) (Or.inl ⟨by rfl, ?_⟩) hS ?_
  rotate_left
  · (intro w' hS'; have j1 := k1 w' hS'; have j2 := k2 w' hS'; have j3 := k3 w' hS'; have j4 := k4 w' hS'; go_simp; try with_reducible rfl)
  refine wpAnyH_take (i := 14) (v := ?_) rfl (by kernel_rfl) (by kernel_rfl) (by kernel_rfl) (fun _ _ _ h => h) (Or.inl ⟨by rfl, ?_⟩) hS ?_
  rotate_left
  · (intro w' hS'; have j1 := k1 w' hS'; have j2 := k2 w' hS'; have j3 := k3 w' hS'; have j4 := k4 w' hS'; go_simp; try with_reducible rfl)
  refine wpAnyH_take (i := 15) (v := ?_) rfl (by kernel_rfl) (by kernel_rfl) (by kernel_rfl) (fun _ _ _ h => h) (Or.inl ⟨by rfl, ?_⟩) hS ?_
  rotate_left
  · (intro w' hS'; have j1 := k1 w' hS'; have j2 := k2 w' hS'; have j3 := k3 w' hS'; have j4 := k4 w' hS'; go_simp; try with_reducible rfl)
  refine wpAnyH_take (i := 16) (v := ?_) rfl (by kernel_rfl) (by kernel_rfl) (by kernel_rfl) (fun _ _ _ h => h) (Or.inl ⟨by rfl, ?_⟩) hS ?_
  rotate_left
  · (intro w' hS'; have j1 := k1 w' hS'; have j2 := k2 w' hS'; have j3 := k3 w' hS'; have j4 := k4 w' hS'; go_simp; try with_reducible rfl)
  refine wpAnyH_take (i := 17) (v := ?_) rfl (by kernel_rfl) (by kernel_rfl) (by kernel_rfl) (fun _ _ _ h => h) (Or.inl ⟨by rfl, ?_⟩) hS ?_
  rotate_left
  · (intro w' hS'; have j1 := k1 w' hS'; have j2 := k2 w' hS'; have j3 := k3 w' hS'; have j4 := k4 w' hS'; go_simp; try with_reducible rfl)
  refine wpAnyH_take (i := 18) (v := ?_) rfl (by kernel_rfl) (by kernel_rfl) (by kernel_rfl) (fun _ _ _ h => h) (Or.inl ⟨by rfl, ?_⟩) hS ?_
  rotate_left
  · (intro w' hS'; have j1 := k1 w' hS'; have j2 := k2 w' hS'; have j3 := k3 w' hS'; have j4 := k4 w' hS'; go_simp; try with_reducible rfl)
  refine wpAnyH_take (i := 19) (v := ?_) rfl (by kernel_rfl) (by kernel_rfl) (by kernel_rfl) (fun _ _ _ h => h) (Or.inl ⟨by rfl, ?_⟩) hS ?_
  rotate_left
  · (intro w' hS'; have j1 := k1 w' hS'; have j2 := k2 w' hS'; have j3 := k3 w' hS'; have j4 := k4 w' hS'; go_simp; try with_reducible rfl)
  refine wpAnyH_take (i := 20) (v := ?_) rfl (by kernel_rfl) (by kernel_rfl) (by kernel_rfl) (fun _ _ _ h => h) (Or.inl ⟨by rfl, ?_⟩) hS ?_
  rotate_left
  · (intro w' hS'; have j1 := k1 w' hS'; have j2 := k2 w' hS'; have j3 := k3 w' hS'; have j4 := k4 w' hS'; go_simp; try with_reducible rfl)
  refine wpAnyH_ready (rs := [10]) (by kernel_rfl) (by simp) ?_
  refine AllReadyH.cons rfl (fun K hK => ?_) AllReadyH.nil
  go_simp
  go_at_call 82
  refine (cmpu_any _ _ _).mono ?_
  rintro e w1 ⟨rfl, rfl⟩
  refine hK.out _ _ hS (fun _ => ?_)
  clear hK K
  refine wpAnyH_ready (rs := [21]) (by kernel_rfl) (by simp) ?_
  refine AllReadyH.cons rfl (fun K hK => ?_) AllReadyH.nil
  go_simp
  go_at_call 83
  refine (cmpi_any _ _ _).mono ?_
  rintro e w1 ⟨rfl, rfl⟩
  refine hK.out _ _ hS (fun _ => ?_)
  clear hK K
  have hS2 : Ext w (w.alloc (.cells #[Value.int .i64 (cmpN wa wb), Value.int .i64 (cmpN na nb)] 3)).drew := ((Mut.refl noB w).alloc _).drew
  have m0 : (w.alloc (.cells #[Value.int .i64 (cmpN wa wb), Value.int .i64 (cmpN na nb)] 3)).drew.cell? ⟨w.heap.size, 0, none⟩ = some (.int .i64 (cmpN wa wb)) := cell_of_heap (heap_alloc_self _ _) 0
  have m1 : (w.alloc (.cells #[Value.int .i64 (cmpN wa wb), Value.int .i64 (cmpN na nb)] 3)).drew.cell? ⟨w.heap.size, 1, none⟩ = some (.int .i64 (cmpN na nb)) := cell_of_heap (heap_alloc_self _ _) 1
  have HO2 := Lib.hid (or_any _ _ _ _ m0 m1)
  clear m0 m1
  generalize cmpN wa wb = x1 at hS2 HO2 HO ⊢
  generalize cmpN na nb = x2 at hS2 HO2 HO ⊢
  refine wpAnyH_ready (rs := [22]) (by kernel_rfl) (by simp) ?_
  refine AllReadyH.cons rfl (fun K hK => ?_) AllReadyH.nil
  go_simp
  refine hK.out _ _ hS2 (fun _ => ?_)
  clear hK K
  refine wpAnyH_ready (rs := [23]) (by kernel_rfl) (by simp) ?_
  refine AllReadyH.cons rfl (fun K hK => ?_) AllReadyH.nil
  go_simp
  go_at_call 81
  refine HO2.out.mono ?_
  rintro e w1 ⟨rfl, rfl⟩
  refine hK.out _ _ hS2 (fun _ => ?_)
  clear hK K
  refine wpAnyH_ready (rs := [24]) (by kernel_rfl) (by simp) ?_
  refine AllReadyH.cons rfl (fun K hK => ?_) AllReadyH.nil
  go_simp
  refine hK.out _ _ hS2 (fun _ => ?_)
  clear hK K
  refine wpAnyH_ready (rs := [25]) (by kernel_rfl) (by simp) ?_
  refine AllReadyH.cons rfl (fun K hK => ?_) AllReadyH.nil
  go_simp
  refine hK.out _ _ hS2 (fun _ => ?_)
  clear hK K
  refine wpAnyH_done (by kernel_rfl) ?_ _
  go_wp2_with fail
  go_ret
  rw [HO.out]
  exact ⟨rfl, hS2⟩
end Go.Proofs.Ytclhmlgbhlmekaa
