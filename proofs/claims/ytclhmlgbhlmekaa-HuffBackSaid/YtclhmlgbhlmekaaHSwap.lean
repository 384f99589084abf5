/- Layer 7: the heap of trees in memory: Swap. -/
import Derived.Test.YtclhmlgbhlmekaaRowst
import Derived.Test.YtclhmlgbhlmekaaHTree
namespace Go.Proofs.Ytclhmlgbhlmekaa
open Go.RowKit
set_option linter.unusedVariables false
set_option linter.unusedSimpArgs false
theorem swap_cells (vs : Nat → Value) (l : List WN) (i k : Nat) (hi : i < l.length) (hk : k < l.length) :
    setN (setN (l.flatMap (trC vs)) (i * 3) (trC vs (hget l k))) (k * 3) (trC vs (hget l i)) = (hswap l i k).flatMap (trC vs) := by
  rw [flat_set (trC_len vs) l i hi, flat_set (trC_len vs) _ k (by rw [List.length_set]; exact hk)]
  rfl
set_option maxRecDepth 20000 in
set_option maxHeartbeats 4000000 in
theorem swap_st {S : Nat → Prop} {W w : World} {M : List Thing} {A : Option Addr} {n c : Nat} {vs : Nat → Value} {l : List WN} (hv : ∀ k, (vs k).oneCell' = true) (h : St S W w (ownT 50 3 (.slice A n c) n (l.flatMap (trC vs)) :: M)) (hl : l.length = n) (hn : n ≤ 1000000) (i k : Nat) (hi : i < n) (hk : k < n) :
    Calls Try.prog 80 #[.slice A n c, .int .i64 i, .int .i64 k] w fun e w' => e = .returned (.tuple #[]) ∧ St S W w' (ownT 50 3 (.slice A n c) n ((hswap l i k).flatMap (trC vs)) :: M) := by
  obtain ⟨g, rfl, hc⟩ := tr_cells h.own hl (by omega)
  obtain ⟨p0, p1, p2⟩ := hc i hi
  obtain ⟨q0, q1, q2⟩ := hc k hk
  have HSW := Lib.hid (swap_cells vs l i k (by omega) (by omega))
  have hd := h.ext ((Mut.refl noB w).drew)
  have va := hv (hget l i).2
  have vb := hv (hget l k).2
  generalize (hswap l i k).flatMap (trC vs) = R at HSW ⊢
  change Hid (setN (setN (l.flatMap (trC vs)) (i * 3) [.int .u64 (hget l k).1, .int .i64 (hget l k).2, vs (hget l k).2]) (k * 3) [.int .u64 (hget l i).1, .int .i64 (hget l i).2, vs (hget l i).2] = R) at HSW
  generalize vs (hget l i).2 = ua at p2 va HSW
  generalize vs (hget l k).2 = ub at q2 vb HSW
  generalize hget l i = a at p0 p1 HSW
  generalize hget l k = b at q0 q1 HSW
  obtain ⟨wa, na⟩ := a
  obtain ⟨wb, nb⟩ := b
  simp only at p0 p1 q0 q1
  clear hc h
  go_enter Try.func80, Try.ntmps80
  go_wp2_with fail
  refine wp_region_any (by kernel_rfl) ?_
  change wpAny _ _ _ _ _ _ _ (World.drew _)
  refine wpAny_take (i := 0) (v := ?_) rfl (by kernel_rfl) (by kernel_rfl) (by kernel_rfl) (fun _ _ _ h => h) (Or.inl ⟨by rfl, ?_⟩) ?_
  rotate_left
  · (intro w; go_simp; try with_reducible rfl)
  refine wpAny_take (i := 1) (v := ?_) rfl (by kernel_rfl) (by kernel_rfl) (by kernel_rfl) (fun _ _ _ h => h) (Or.inl ⟨by rfl, ?_⟩) ?_
  rotate_left
  · (intro w; go_simp; try with_reducible rfl)
  refine wpAny_take (i := 2) (v := ?_) rfl (by kernel_rfl) (by kernel_rfl) (by kernel_rfl) (fun _ _ _ h => h) (Or.inl ⟨by rfl, ?_⟩) ?_
  rotate_left
  · (intro w; go_simp; try with_reducible rfl)
  refine wpAny_take (i := 3) (v := ?_) rfl (by kernel_rfl) (by kernel_rfl) (by kernel_rfl) (fun _ _ _ h => h) (Or.inl ⟨by rfl, ?_⟩) ?_
  rotate_left
  · (intro w; go_simp; try with_reducible rfl)
  refine wpAny_take (i := 4) (v := ?_) rfl (by kernel_rfl) (by kernel_rfl) (by kernel_rfl) (fun _ _ _ h => h) (Or.inl ⟨by rfl, ?_⟩) ?_
  rotate_left
  · (intro w; go_simp; try with_reducible rfl)
  refine wpAny_take (i := 5) (v := ?_) rfl (by kernel_rfl) (by kernel_rfl) (by kernel_rfl) (fun _ _ _ h => h) (Or.inl ⟨by rfl, ?_⟩) ?_
  rotate_left
  · (intro w; go_simp; try with_reducible rfl)
  refine wpAny_take (i := 6) (v := ?_) rfl (by kernel_rfl) (by kernel_rfl) (by kernel_rfl) (fun _ _ _ h => h) (Or.inl ⟨by rfl, ?_⟩) ?_
  rotate_left
  · (intro w; go_simp; try with_reducible rfl)
  refine wpAny_take (i := 8) (v := ?_) rfl (by kernel_rfl) (by kernel_rfl) (by kernel_rfl) (fun _ _ _ h => h) (Or.inl ⟨by rfl, ?_⟩) ?_
  rotate_left
  · (intro w; go_simp; try with_reducible rfl)
  refine wpAny_take (i := 9) (v := ?_) rfl (by kernel_rfl) (by kernel_rfl) (by kernel_rfl) (fun _ _ _ h => h) (Or.inl ⟨by rfl, ?_⟩) ?_
  rotate_left
  · (intro w; go_simp; try with_reducible rfl)
  refine wpAny_take (i := 10) (v := ?_) rfl (by kernel_rfl) (by kernel_rfl) (by kernel_rfl) (fun _ _ _ h => h) (Or.inl ⟨by rfl, ?_⟩) ?_
  rotate_left
  · (intro w; go_simp; try with_reducible rfl)
  refine wpAny_ready (rs := [7, 11]) (by kernel_rfl) (by simp) ?_
  refine AllReady.cons rfl (fun K hK => ?_) ?_
  · go_simp
    refine hK _ _ ?_
    clear hK K
    refine wpAny_ready (rs := [11]) (by kernel_rfl) (by simp) ?_
    refine AllReady.cons rfl (fun K hK => ?_) AllReady.nil
    go_simp
    refine hK _ _ ?_
    clear hK K
    refine wpAny_ready (rs := [12]) (by kernel_rfl) (by simp) ?_
    refine AllReady.cons rfl (fun K hK => ?_) AllReady.nil
    go_simp
    refine hK _ _ ?_
    clear hK K
    refine wpAny_ready (rs := [13]) (by kernel_rfl) (by simp) ?_
    refine AllReady.cons rfl (fun K hK => ?_) AllReady.nil
    refine step_store_own rfl 50 _ _ rfl hd (i * 3) rfl [.int .u64 wb, .int .i64 nb, ub] rfl (by kernel_rfl) (by show i * 3 + 3 ≤ n * 3; omega) (by intro q hq; simp at hq; rcases hq with rfl | rfl | rfl <;> first | rfl | exact vb) (fun h1 => ?_)
    refine hK _ _ ?_
    clear hK K
    refine wpAny_ready (rs := [14]) (by kernel_rfl) (by simp) ?_
    refine AllReady.cons rfl (fun K hK => ?_) AllReady.nil
    go_simp
    refine hK _ _ ?_
    clear hK K
    refine wpAny_ready (rs := [15]) (by kernel_rfl) (by simp) ?_
    refine AllReady.cons rfl (fun K hK => ?_) AllReady.nil
    refine step_store_own rfl 50 _ _ rfl h1 (k * 3) rfl [.int .u64 wa, .int .i64 na, ua] rfl (by kernel_rfl) (by show k * 3 + 3 ≤ n * 3; omega) (by intro q hq; simp at hq; rcases hq with rfl | rfl | rfl <;> first | rfl | exact va) (fun h2 => ?_)
    refine hK _ _ ?_
    clear hK K
    refine wpAny_done (by kernel_rfl) ?_ _
    rw [HSW.out] at h2
    clear h1 hd
    go_wp2_with fail
    go_end0
    exact ⟨rfl, h2⟩
  · refine AllReady.cons rfl (fun K hK => ?_) AllReady.nil
    go_simp
    refine hK _ _ ?_
    clear hK K
    refine wpAny_ready (rs := [7]) (by kernel_rfl) (by simp) ?_
    refine AllReady.cons rfl (fun K hK => ?_) AllReady.nil
    go_simp
    refine hK _ _ ?_
    clear hK K
    refine wpAny_ready (rs := [12]) (by kernel_rfl) (by simp) ?_
    refine AllReady.cons rfl (fun K hK => ?_) AllReady.nil
    go_simp
    refine hK _ _ ?_
    clear hK K
    refine wpAny_ready (rs := [13]) (by kernel_rfl) (by simp) ?_
    refine AllReady.cons rfl (fun K hK => ?_) AllReady.nil
    refine step_store_own rfl 50 _ _ rfl hd (i * 3) rfl [.int .u64 wb, .int .i64 nb, ub] rfl (by kernel_rfl) (by show i * 3 + 3 ≤ n * 3; omega) (by intro q hq; simp at hq; rcases hq with rfl | rfl | rfl <;> first | rfl | exact vb) (fun h1 => ?_)
    refine hK _ _ ?_
    clear hK K
    refine wpAny_ready (rs := [14]) (by kernel_rfl) (by simp) ?_
    refine AllReady.cons rfl (fun K hK => ?_) AllReady.nil
    go_simp
    refine hK _ _ ?_
    clear hK K
    refine wpAny_ready (rs := [15]) (by kernel_rfl) (by simp) ?_
    refine AllReady.cons rfl (fun K hK => ?_) AllReady.nil
    refine step_store_own rfl 50 _ _ rfl h1 (k * 3) rfl [.int .u64 wa, .int .i64 na, ua] rfl (by kernel_rfl) (by show k * 3 + 3 ≤ n * 3; omega) (by intro q hq; simp at hq; rcases hq with rfl | rfl | rfl <;> first | rfl | exact va) (fun h2 => ?_)
    refine hK _ _ ?_
    clear hK K
    refine wpAny_done (by kernel_rfl) ?_ _
    rw [HSW.out] at h2
    clear h1 hd
    go_wp2_with fail
    go_end0
    exact ⟨rfl, h2⟩
end Go.Proofs.Ytclhmlgbhlmekaa
