/- Layer 7: the least tree is taken off. -/
import Derived.Test.YtclhmlgbhlmekaaHLeast
namespace Go.Proofs.Ytclhmlgbhlmekaa
open Go.RowKit
set_option linter.unusedVariables false
set_option linter.unusedSimpArgs false
section
variable {S : Nat → Prop} {W : World} {b : Nat} {A : Option Addr} {n c : Nat} {vs : Nat → Value} {M : List Thing}
theorem vs_one (hv : ∀ k, ∃ A n c, vs k = .slice A n c) (k : Nat) : (vs k).oneCell' = true := by obtain ⟨A, n, c, e⟩ := hv k; rw [e]; rfl
set_option maxRecDepth 20000 in
set_option maxHeartbeats 4000000 in
theorem pop_st {w : World} {l : List WN} (hv : ∀ k, ∃ A n c, vs k = .slice A n c) (h : St S W w (hpT b A (n + 1) c vs l M)) (hl : l.length = n + 1) (hn : n < 1000000) :
    Calls Try.prog 41 #[hpV b] w fun e w' => e = .returned (.iface 50 (.agg (trC vs (hget l 0)).toArray)) ∧ St S W w' (hpT b A n c vs ((hpop l).take n) M) := by
  have hm := meth_len b _ w (hp_cell h)
  have hmS := meth_swap b _ w (hp_cell h)
  have hmP := fun w => meth_pop (.pointer (some ⟨b, 0, none⟩)) w
  have hz : ((n + 1 : Nat) : Int) - 1 = (n : Int) := by omega
  have HS := Lib.hid (hp_swap (vs_one hv) h hl (by omega) 0 n 0 (n : Int) (by omega) (by omega) rfl rfl)
  have e1 : hdown n (hswap l 0 n) 0 n = hpop l := by unfold hpop; rw [hl]; rfl
  have e2 : hget (hpop l) n = hget l 0 := by have := hpop_last l (by omega); rw [hl] at this; exact this
  have hl2 := hswap_len l 0 n
  have hl3 := hpop_len l
  rw [hl] at hl2 hl3
  generalize hswap l 0 n = l2 at HS e1 hl2
  rw [← e1] at e2 hl3 ⊢
  have HD := Lib.hid (fun w (h : St S W w (hpT b A (n + 1) c vs l2 M)) => down_st (vs_one hv) h hl2 (by omega) 0 n n (by omega) (by omega) (by omega))
  generalize hdown n l2 0 n = l3 at HD e2 hl3 ⊢
  rw [show ((0 : Nat) : Int) = 0 from rfl] at HD
  have HP := Lib.hid (fun w (h : St S W w (hpT b A (n + 1) c vs l3 M)) => tpop_st hv h hl3 hn)
  rw [e2] at HP
  generalize (trC vs (hget l 0)).toArray = R at HP ⊢
  clear h e1 e2 hl2 hl3 hl
  go_enter Try.func41, Try.ntmps41
  go_wp2_with fail
  refine (len_any A (n + 1) c _).mono ?_
  rintro e w1 ⟨rfl, rfl⟩
  clear hm
  go_wp2_with fail
  refine HS.out.mono ?_
  rintro e w2 ⟨rfl, h2⟩
  clear hmS HS
  go_wp2_with fail
  refine (HD.out _ h2).mono ?_
  rintro e w3 ⟨⟨r, rfl⟩, h3⟩
  clear h2 HD
  go_wp2_with fail
  refine (HP.out _ h3).mono ?_
  rintro e w4 ⟨rfl, h4⟩
  clear h3 HP hmP
  go_wp2_with fail
  go_ret
  exact ⟨rfl, h4⟩
set_option maxRecDepth 20000 in
set_option maxHeartbeats 4000000 in
theorem least_st {w : World} {l : List WN} (hv : ∀ k, ∃ A n c, vs k = .slice A n c) (h : St S W w (hpT b A (n + 1) c vs l M)) (hl : l.length = n + 1) (hn : n < 1000000) :
    Calls Try.prog 25 #[hpV b] w fun e w' => e = .returned (.agg (trC vs (hget l 0)).toArray) ∧ St S W w' (hpT b A n c vs ((hpop l).take n) M) := by
  have h1 : St S W (w.alloc (.cells #[.int .u64 0, .int .i64 0, .slice none 0 0] 50)) (hpT b A (n + 1) c vs l (blkT w.heap.size #[.int .u64 0, .int .i64 0, .slice none 0 0] 50 :: M)) :=
    ((h.alloc #[.int .u64 0, .int .i64 0, .slice none 0 0] 50).swap).under (fun _ ht => ht.swap)
  have HP := Lib.hid (pop_st hv h1 hl hn)
  unfold trC at HP ⊢
  have hv0 := hv (hget l 0).2
  generalize vs (hget l 0).2 = v at HP hv0 ⊢
  obtain ⟨A2, n2, c2, rfl⟩ := hv0
  generalize hget l 0 = x at HP ⊢
  obtain ⟨xw, xn⟩ := x
  simp only at HP ⊢
  have ha := fun w => assert_tree (.agg #[.int .u64 xw, .int .i64 xn, .slice A2 n2 c2]) w
  clear h h1
  go_enter Try.func25, Try.ntmps25
  go_wp2_with fail
  refine HP.out.mono ?_
  rintro e w1 ⟨rfl, h2⟩
  clear HP
  generalize w.heap.size = x at h2 ⊢
  have hx7 := (h2.pull 2).blk
  have h3 := (h2.pull 2).row #[.int .u64 xw, .int .i64 xn, .slice A2 n2 c2]
  clear h2
  go_wp2_with (refine wpList_store_row rfl _ _ _ rfl x #[.int .u64 xw, .int .i64 xn, .slice A2 n2 c2] rfl rfl 50 _ hx7 (by kernel_rfl) rfl (by simp [Value.oneCell']) ?_)
  refine bodyPost_ret_by (results_one rfl _ _ x 50 _ (0, 0) _ rfl h3.blk Try.underlying50 rfl (by kernel_rfl)) rfl ?_
  exact ⟨rfl, h3.drop⟩
end
end Go.Proofs.Ytclhmlgbhlmekaa
