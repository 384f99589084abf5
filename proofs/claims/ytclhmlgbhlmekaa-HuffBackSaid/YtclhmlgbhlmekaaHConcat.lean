/- Layer 7: slices.Grow and slices.Concat at bytes. -/
import Derived.Test.YtclhmlgbhlmekaaHTake
namespace Go.Proofs.Ytclhmlgbhlmekaa
open Go.RowKit
set_option linter.unusedVariables false
set_option linter.unusedSimpArgs false
theorem run_append_make {P : Program} (w : World) (t u ty e : TypeId) (i : TypeInfo) (z : Value) (ht : P.underlying t = some (.slice e)) (hu : P.underlying u = some (.int .i64)) (hi : P.info? e = some i) (hz : i.zero = some z) (hs : i.size = 1)
    (n : Nat) (h0 : 0 < n) (hb : n * i.bytes ≤ 140737488355328) (h63 : n ≤ 140737488355328) :
    (Builtin.append_ #[t, u] ty #[.slice none 0 0, .int .i64 n]).run P w =
      .ok (.slice (some ⟨w.heap.size, 0, none⟩) n (grownCap w n 0 e)) (w.drew.alloc (.cells (Builtin.zeroCells z.cells n ++ Builtin.zeroCells z.cells (grownCap w n 0 e - n)) e)) := by
  have hn : n ≠ 0 := by omega
  have hw : IntKind.i64.wrap (n : Int) = n := by rw [IntKind.wrap_i64]; omega
  have h1 : ¬ ((n : Int) < 0) := by omega
  have h2 : ¬ (281474976710656 < (n : Int) * (i.bytes : Int)) := by
    have : ((n * i.bytes : Nat) : Int) = (n : Int) * i.bytes := by simp
    omega
  have h63' : ¬ (9223372036854775807 < (n : Int)) := by omega
  have h48' : ¬ (281474976710656 < Builtin.nextslicecap n 0 * i.bytes) := by rw [nextslicecap_zero h0]; omega
  have ha : (asIntOf (.int .i64 (n : Int))).run P w = .ok (.i64, (n : Int)) w := rfl
  have h4 : ¬ ((n : Int) ≤ 0) := by omega
  have h5 : max (n : Int) 0 = n := by omega
  simp [Builtin.append_, ha, h4, h5, run_underlying ht, run_underlying hu, sizeOf, typeInfo, zeroValue, hi, hz, hs, asInt, hw, hn, h1, h2, h63', h48', Question.forced, run_firstCells_none, newRow, grownCap]
theorem wpList_append_run {P : Program} {ops : Array Oper} {rest : List Oper} {o : Oper} {a : Act} {Q : Exit → Act → World → Prop} {w w' : World} {v : Value} (hgd : o.guard = none) (s x : Operand) (t u : TypeId)
    (ho : o.op = .call { callee := .builtin .append, args := #[s, x], argTypes := #[t, u] }) (S X : Value) (hs : a.eval s = S) (hx : a.eval x = X)
    (hr : (Builtin.append_ #[t, u] o.type #[S, X]).run P w = .ok v w') (h : wpList P ops Q rest (a.put o.dst v) w') : wpList P ops Q (o :: rest) a w := by
  refine wpList_plain hgd fun K hK => ?_
  unfold Oper.wp execOp
  simp only [ho, resolve, invoke, builtin, Sem.run_bind, Sem.run_pure, Result.andThen_ok, List.map_toArray, List.map_cons, List.map_nil, hs, hx, hr]
  exact hK _ _ h
theorem St.blkOwn {S : Nat → Prop} {W w : World} {L : List Thing} {b : Nat} {cells : Array Value} {e : TypeId} {size cap : Nat} (h : St S W w (blkT b cells e :: L)) (hs : cells.size = cap * size) (hc : cap ≤ maxLen) : St S W w (ownT e size (.slice (some ⟨b, 0, none⟩) 0 cap) 0 [] :: L) :=
  h.upd fun fp h1 => ⟨fp, ⟨⟨by simp, .inr ⟨b, cap, cells, rfl, Nat.zero_le _, h1.1, Nat.zero_le _, hc, hs, by simp⟩⟩, by rw [h1.2]; funext k; exact propext ⟨fun e => by rw [e]; rfl, fun e => by injection e with e; exact e.symm⟩⟩, Mut.refl _ _, fun k hk => .inl hk⟩
theorem byte_info : (Try.prog.info? 5).map (fun i => (i.zero, i.size, i.bytes)) = some (some (.int .u8 0), 1, 1) := by kernel_rfl
section
variable {S : Nat → Prop} {W : World} {M : List Thing}
set_option maxRecDepth 20000 in
set_option maxHeartbeats 4000000 in
theorem grow_st {w : World} (h : St S W w M) (n : Nat) (h0 : 0 < n) (hn : n ≤ 1000000) :
    Calls Try.prog 42 #[.slice none 0 0, .int .i64 n] w fun e w' => ∃ A c, e = .returned (.slice A 0 c) ∧ St S W w' (ownT 5 1 (.slice A 0 c) 0 [] :: M) := by
  obtain ⟨i, hi, hz, hs, hby⟩ := info_parts byte_info
  have hr := fun w => run_append_make (P := Try.prog) w 30 3 30 5 i (.int .u8 0) Try.underlying30 Try.underlying3 hi hz hs n h0 (by rw [hby]; omega) (by omega)
  have HR := Lib.hid hr
  clear hr
  go_enter Try.func42, Try.ntmps42
  have hn0 : (0 : Int) < (n : Int) := by omega
  go_wp2_with (at_builtin; refine wpList_append_run rfl _ _ 30 3 rfl (.slice none 0 0) (.int .i64 n) rfl rfl (HR.out _) ?_)
  go_ret
  have hge := grownCap_ge w n 0 5
  have hle := grownCap_le_maxLen w n 0 5 (by unfold maxLen; omega)
  have h1 := (h.alloc (Builtin.zeroCells #[Value.int .u8 0] n ++ Builtin.zeroCells #[Value.int .u8 0] (grownCap w n 0 5 - n)) 5).blkOwn (size := 1) (cap := grownCap w n 0 5) (by rw [Array.size_append, size_zeroCells, size_zeroCells]; show n * 1 + (_ - n) * 1 = _ * 1; omega) hle
  exact ⟨_, _, rfl, h1.ext ((Mut.refl _ _).drew)⟩
end
end Go.Proofs.Ytclhmlgbhlmekaa
