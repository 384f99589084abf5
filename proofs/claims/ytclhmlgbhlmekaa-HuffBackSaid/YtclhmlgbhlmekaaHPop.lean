/- Layer 7: container/heap's Push and Pop, on trees. -/
import Derived.Test.YtclhmlgbhlmekaaHUp
namespace Go.Proofs.Ytclhmlgbhlmekaa
open Go.RowKit
set_option linter.unusedVariables false
set_option linter.unusedSimpArgs false
theorem meth_ptr {P : Program} {pt st : TypeId} {name : String} {f : FuncId} {fuel : Nat} (hm : ((P.info? pt).bind fun i => (i.methods.find? (·.name == name)).map fun m => (m.path.toList, m.func)) = some ([], some (f, true)))
    (hu : P.underlying pt = some (.pointer st)) (v : Value) (w : World) : (method (fuel + 1) pt v name).run P w = .ok (f, v) w := by
  obtain ⟨i, hi, hm⟩ := Option.bind_eq_some_iff.1 hm
  obtain ⟨m, hm, he⟩ := Option.map_eq_some_iff.1 hm
  injection he with he1 he2
  have hp2 : m.path = #[] := Array.toList_eq_nil_iff.1 he1
  simp [method, typeInfo, hi, hm, he1, he2, hp2, follow, receiverAt, underlying, hu, Place.get, Result.andThen]
theorem meth_push (v : Value) (w : World) : (method 248 52 v "Push").run Try.prog w = .ok (87, v) w :=
  meth_ptr (by kernel_rfl) Try.underlying52 v w
theorem meth_pop (v : Value) (w : World) : (method 248 52 v "Pop").run Try.prog w = .ok (86, v) w :=
  meth_ptr (by kernel_rfl) Try.underlying52 v w
theorem Own.shrink {w : World} {e : TypeId} {size : Nat} {A : Option Addr} {n c m : Nat} {xs : List Value} (h : Own w e size (.slice A n c) n xs) (hm : m ≤ n) : Own w e size (.slice A m c) m (xs.take (m * size)) := by
  have hl := h.len
  have h1 : m * size ≤ n * size := Nat.mul_le_mul_right _ hm
  refine ⟨by rw [List.length_take]; omega, ?_⟩
  rcases h.2 with ⟨e1, e2⟩ | ⟨g, cap, cur, e1, h2, h3, h4, h5, h6, h7⟩
  · injection e1 with a1 a2 a3
    subst a1 e2 a3
    obtain rfl : m = 0 := by omega
    exact .inl ⟨rfl, rfl⟩
  · injection e1 with a1 a2 a3
    subst a1 a3
    exact .inr ⟨g, c, cur, rfl, h2, h3, by omega, h5, h6, by rw [← h7, List.take_take, Nat.min_eq_left h1]⟩
theorem St.shrink {S : Nat → Prop} {W w : World} {e : TypeId} {size : Nat} {A : Option Addr} {n c m : Nat} {xs : List Value} {L : List Thing} (h : St S W w (ownT e size (.slice A n c) n xs :: L)) (hm : m ≤ n) : St S W w (ownT e size (.slice A m c) m (xs.take (m * size)) :: L) :=
  h.upd fun fp h1 => ⟨fp, ⟨h1.1.shrink hm, by rw [h1.2]; cases A <;> rfl⟩, Mut.refl _ _, fun k hk => .inl hk⟩
theorem run_assert {P : Program} {t : TypeId} {d : TypeDesc} (hu : P.underlying t = some d) (hd : (match d with | .interface _ => false | _ => true) = true) (xt : TypeId) (v : Value) (w : World) : (Instr.typeAssert (.iface t v) xt t false).run P w = .ok v w := by
  cases d <;> simp at hd <;> simp [Instr.typeAssert, underlying, hu, Result.andThen]
theorem assert_tree (v : Value) (w : World) : (Instr.typeAssert (.iface 50 v) 20 50 false).run Try.prog w = .ok v w := run_assert Try.underlying50 rfl _ v w
theorem tree_info : (Try.prog.info? 50).map (fun i => (i.zero, i.size, i.bytes)) = some (some (.agg #[.int .u64 0, .int .i64 0, .slice none 0 0]), 3, 40) := by kernel_rfl
section
variable {S : Nat → Prop} {W : World} {b : Nat} {A : Option Addr} {n c : Nat} {vs : Nat → Value} {M : List Thing}
set_option maxRecDepth 20000 in
set_option maxHeartbeats 4000000 in
theorem tpush_st {w : World} {l : List WN} (h : St S W w (hpT b A n c vs l M)) (hn : n ≤ 1000000) (xw xn : Nat) (hvx : (vs xn).oneCell' = true) :
    Calls Try.prog 87 #[.pointer (some ⟨b, 0, none⟩), .iface 50 (.agg #[.int .u64 xw, .int .i64 xn, vs xn])] w fun e w' => e = .returned (.tuple #[]) ∧ ∃ A' c', St S W w' (hpT b A' (n + 1) c' vs (l ++ [(xw, xn)]) M) := by
  have hd := h.ext ((Mut.refl noB w).drew)
  have hp := hp_cell h
  have hpd := fun o : Obj => Ext.cell ((Mut.refl noB w).alloc o) hp
  have ha := fun w => assert_tree (.agg #[.int .u64 xw, .int .i64 xn, vs xn]) w
  clear h
  go_enter Try.func87, Try.ntmps87
  go_wp2_with fail
  refine wp_region_any (by kernel_rfl) ?_
  change wpAny _ _ _ _ _ _ _ (World.drew _)
  refine wpAny_take (i := 0) (v := ?_) rfl (by kernel_rfl) (by kernel_rfl) (by kernel_rfl) (fun _ _ _ h => h) (Or.inl ⟨by rfl, ?_⟩) ?_
  rotate_left
  · (intro w; go_simp; try with_reducible rfl)
  refine wpAny_take (i := 1) (v := ?_) rfl (by kernel_rfl) (by kernel_rfl) (by kernel_rfl) (fun _ _ _ h => h) (Or.inl ⟨by rfl, ?_⟩) ?_
  rotate_left
  · (intro w; go_simp; try with_reducible rfl)
  refine wpAny_take (i := 2) (v := ?_) rfl (by kernel_rfl) (by kernel_rfl) (by kernel_rfl) (fun _ _ _ h => h) (Or.inl ⟨by rfl, ?_⟩) ?_
  rotate_left
  · (intro w; go_simp; try with_reducible rfl)
  refine wpAny_take (i := 4) (v := ?_) rfl (by kernel_rfl) (by kernel_rfl) (by kernel_rfl) (fun _ _ _ h => h) (Or.inl ⟨by rfl, ?_⟩) ?_
  rotate_left
  · (intro w; go_simp; try with_reducible rfl)
  refine wpAny_take (i := 5) (v := ?_) rfl (by kernel_rfl) (by kernel_rfl) (by kernel_rfl) (fun _ _ _ h => h) (Or.inl ⟨by rfl, ?_⟩) ?_
  rotate_left
  · (intro w; go_simp; try with_reducible rfl)
  refine wpAny_ready (rs := [3, 6]) (by kernel_rfl) (by simp) ?_
  refine AllReady.cons rfl (fun K hK => ?_) ?_
  · go_simp
    refine hK _ _ ?_
    clear hK K
    refine wpAny_ready (rs := [6]) (by kernel_rfl) (by simp) ?_
    refine AllReady.cons rfl (fun K hK => ?_) AllReady.nil
    go_simp
    refine hK _ _ ?_
    clear hK K
    refine wpAny_ready (rs := [7]) (by kernel_rfl) (by simp) ?_
    refine AllReady.cons rfl (fun K hK => ?_) AllReady.nil
    refine step_push rfl _ _ _ rfl 50 (.agg #[.int .u64 0, .int .i64 0, .slice none 0 0]) 3 40 Try.underlying48 tree_info rfl (by decide) hd.swap rfl rfl rfl (by intro q hq; simp at hq; rcases hq with rfl | rfl | rfl <;> first | rfl | exact hvx) (by unfold maxLen; omega) (by omega) ?_
    intro A' c' w5 g4
    have hp5 := cell_of_heap g4.swap.blk 0
    have hf5 := free_of_heap g4.swap.blk 0
    change w5.cell? _ = some (Value.slice A n c) at hp5
    have g5 := g4.swap.set 0 (.slice A' (n + 1) c')
    refine hK _ _ ?_
    clear hK K g4
    refine wpAny_ready (rs := [8]) (by kernel_rfl) (by simp) ?_
    refine AllReady.cons rfl (fun K hK => ?_) AllReady.nil
    go_simp
    refine hK _ _ ?_
    clear hK K
    refine wpAny_ready (rs := [9]) (by kernel_rfl) (by simp) ?_
    refine AllReady.cons rfl (fun K hK => ?_) AllReady.nil
    go_simp
    refine hK _ _ ?_
    clear hK K
    refine wpAny_done (by kernel_rfl) ?_ _
    go_wp2_with fail
    go_end0
    refine ⟨rfl, A', c', ?_⟩
    have e : l.flatMap (trC vs) ++ [Value.int .u64 xw, Value.int .i64 xn, vs xn] = (l ++ [(xw, xn)]).flatMap (trC vs) := by rw [List.flatMap_append, List.flatMap_singleton]; rfl
    unfold hpT
    rw [← e]
    exact g5
  · refine AllReady.cons rfl (fun K hK => ?_) AllReady.nil
    go_simp
    refine hK _ _ ?_
    clear hK K
    refine wpAny_ready (rs := [3]) (by kernel_rfl) (by simp) ?_
    refine AllReady.cons rfl (fun K hK => ?_) AllReady.nil
    go_simp
    refine hK _ _ ?_
    clear hK K
    refine wpAny_ready (rs := [7]) (by kernel_rfl) (by simp) ?_
    refine AllReady.cons rfl (fun K hK => ?_) AllReady.nil
    refine step_push rfl _ _ _ rfl 50 (.agg #[.int .u64 0, .int .i64 0, .slice none 0 0]) 3 40 Try.underlying48 tree_info rfl (by decide) hd.swap rfl rfl rfl (by intro q hq; simp at hq; rcases hq with rfl | rfl | rfl <;> first | rfl | exact hvx) (by unfold maxLen; omega) (by omega) ?_
    intro A' c' w5 g4
    have hp5 := cell_of_heap g4.swap.blk 0
    have hf5 := free_of_heap g4.swap.blk 0
    change w5.cell? _ = some (Value.slice A n c) at hp5
    have g5 := g4.swap.set 0 (.slice A' (n + 1) c')
    refine hK _ _ ?_
    clear hK K g4
    refine wpAny_ready (rs := [8]) (by kernel_rfl) (by simp) ?_
    refine AllReady.cons rfl (fun K hK => ?_) AllReady.nil
    go_simp
    refine hK _ _ ?_
    clear hK K
    refine wpAny_ready (rs := [9]) (by kernel_rfl) (by simp) ?_
    refine AllReady.cons rfl (fun K hK => ?_) AllReady.nil
    go_simp
    refine hK _ _ ?_
    clear hK K
    refine wpAny_done (by kernel_rfl) ?_ _
    go_wp2_with fail
    go_end0
    refine ⟨rfl, A', c', ?_⟩
    have e : l.flatMap (trC vs) ++ [Value.int .u64 xw, Value.int .i64 xn, vs xn] = (l ++ [(xw, xn)]).flatMap (trC vs) := by rw [List.flatMap_append, List.flatMap_singleton]; rfl
    unfold hpT
    rw [← e]
    exact g5
end
end Go.Proofs.Ytclhmlgbhlmekaa
