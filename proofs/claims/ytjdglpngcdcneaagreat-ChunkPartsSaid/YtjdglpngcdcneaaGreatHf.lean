/- Texts of this work, put together: HConcat, HConc2, Tab, HCount, HCodes, HLeaf, HMir, HLength. -/
import Derived.Test.YtjdglpngcdcneaaGreatHe
import Derived.Laws.Tables
import Derived.Laws.ResultCell
/- Layer 7: slices.Grow and slices.Concat at bytes. -/
namespace Go.Proofs.YtjdglpngcdcneaaGreat
open Go.RowKit
set_option linter.unusedVariables false
set_option linter.unusedSimpArgs false
set_option linter.unusedSectionVars false
theorem run_append_make {P : Program} (w : World) (t u ty e : TypeId) (i : TypeInfo) (z : Value) (ht : P.underlying t = some (.slice e)) (hu : P.underlying u = some (.int .i64)) (hi : P.info? e = some i) (hz : i.zero = some z) (hs : i.size = 1)
    (n : Nat) (h0 : 0 < n) (hb : n * i.bytes ≤ 140737488355328) (h63 : n ≤ 140737488355328) :
    (Builtin.append_ #[t, u] ty #[.slice none 0 0, .int .i64 n]).run P w =
      .ok (.slice (some ⟨w.heap.size, 0, none⟩) n (grownCap w n 0 e)) (w.drew.alloc (.cells (Builtin.zeroCells z.cells n ++ Builtin.zeroCells z.cells (grownCap w n 0 e - n)) e)) := by
  have hn : n ≠ 0 := by omega
  have hw : IntKind.i64.wrap (n : Int) = n := by rw [IntKind.wrap_i64]; omega
  have h1 : ¬ ((n : Int) < 0) := by omega
  have h2 : ¬ (281474976710656 < (n : Int) * (i.bytes : Int)) := by
    have : ((n * i.bytes : Nat) : Int) = (n : Int) * i.bytes := by simp
    omega
  have h63' : ¬ (9223372036854775807 < (n : Int)) := by omega
  have h48' : ¬ (281474976710656 < Builtin.nextslicecap n 0 * i.bytes) := by rw [nextslicecap_zero h0]; omega
  have ha : (asIntOf (.int .i64 (n : Int))).run P w = .ok (.i64, (n : Int)) w := rfl
  have h4 : ¬ ((n : Int) ≤ 0) := by omega
  have h5 : max (n : Int) 0 = n := by omega
  simp [Builtin.append_, ha, h4, h5, run_underlying ht, run_underlying hu, sizeOf, typeInfo, zeroValue, hi, hz, hs, asInt, hw, hn, h1, h2, h63', h48', Question.forced, run_firstCells_none, newRow, grownCap]
theorem wpList_append_run {P : Program} {ops : Array Oper} {rest : List Oper} {o : Oper} {a : Act} {Q : Exit → Act → World → Prop} {w w' : World} {v : Value} (hgd : o.guard = none) (s x : Operand) (t u : TypeId)
    (ho : o.op = .call { callee := .builtin .append, args := #[s, x], argTypes := #[t, u] }) (S X : Value) (hs : a.eval s = S) (hx : a.eval x = X)
    (hr : (Builtin.append_ #[t, u] o.type #[S, X]).run P w = .ok v w') (h : wpList P ops Q rest (a.put o.dst v) w') : wpList P ops Q (o :: rest) a w := by
  refine wpList_plain hgd fun K hK => ?_
  unfold Oper.wp execOp
  simp only [ho, resolve, invoke, builtin, Sem.run_bind, Sem.run_pure, Result.andThen_ok, List.map_toArray, List.map_cons, List.map_nil, hs, hx, hr]
  exact hK _ _ h
theorem St.blkOwn {S : Nat → Prop} {W w : World} {L : List Thing} {b : Nat} {cells : Array Value} {e : TypeId} {size cap : Nat} (h : St S W w (blkT b cells e :: L)) (hs : cells.size = cap * size) (hc : cap ≤ maxLen) : St S W w (ownT e size (.slice (some ⟨b, 0, none⟩) 0 cap) 0 [] :: L) :=
  h.upd fun fp h1 => ⟨fp, ⟨⟨by simp, .inr ⟨b, cap, cells, rfl, Nat.zero_le _, h1.1, Nat.zero_le _, hc, hs, by simp⟩⟩, by rw [h1.2]; funext k; exact propext ⟨fun e => by rw [e]; rfl, fun e => by injection e with e; exact e.symm⟩⟩, Mut.refl _ _, fun k hk => .inl hk⟩
theorem byte_info : (Tryz.prog.info? 5).map (fun i => (i.zero, i.size, i.bytes)) = some (some (.int .u8 0), 1, 1) := by kernel_rfl
section
variable {S : Nat → Prop} {W : World} {M : List Thing}
set_option maxRecDepth 20000 in
set_option maxHeartbeats 4000000 in
theorem grow_st {w : World} (h : St S W w M) (n : Nat) (h0 : 0 < n) (hn : n ≤ 1000000) :
    Calls Tryz.prog 100 #[.slice none 0 0, .int .i64 n] w fun e w' => ∃ A c, e = .returned (.slice A 0 c) ∧ St S W w' (ownT 5 1 (.slice A 0 c) 0 [] :: M) := by
  obtain ⟨i, hi, hz, hs, hby⟩ := info_parts byte_info
  have hr := fun w => run_append_make (P := Tryz.prog) w 43 3 43 5 i (.int .u8 0) Tryz.underlying43 Tryz.underlying3 hi hz hs n h0 (by rw [hby]; omega) (by omega)
  have HR := Lib.hid hr
  clear hr
  go_enter Tryz.func100, Tryz.ntmps100
  have hn0 : (0 : Int) < (n : Int) := by omega
  go_wp2_with (at_builtin; refine wpList_append_run rfl _ _ 43 3 rfl (.slice none 0 0) (.int .i64 n) rfl rfl (HR.out _) ?_)
  go_ret
  have hge := grownCap_ge w n 0 5
  have hle := grownCap_le_maxLen w n 0 5 (by unfold maxLen; omega)
  have h1 := (h.alloc (Builtin.zeroCells #[Value.int .u8 0] n ++ Builtin.zeroCells #[Value.int .u8 0] (grownCap w n 0 5 - n)) 5).blkOwn (size := 1) (cap := grownCap w n 0 5) (by rw [Array.size_append, size_zeroCells, size_zeroCells]; show n * 1 + (_ - n) * 1 = _ * 1; omega) hle
  exact ⟨_, _, rfl, h1.ext ((Mut.refl _ _).drew)⟩
end
end Go.Proofs.YtjdglpngcdcneaaGreat

/- Layer 7: slices.Concat at bytes. -/
namespace Go.Proofs.YtjdglpngcdcneaaGreat
open Go.RowKit Go.WideShapes
set_option linter.unusedVariables false
set_option linter.unusedSimpArgs false
set_option linter.unusedSectionVars false
/-- a row of bytes that is read -/
structure RB (w : World) (A : Option Addr) (l : List UInt8) : Prop where
  nil : A = none → l.length = 0
  cells : ∀ ad, A = some ad → ∀ j u, (bytesV l)[j]? = some u → w.cell? (ad.add j) = some u
theorem RB.ext {w w' : World} {A : Option Addr} {l : List UInt8} (h : RB w A l) (x : Ext w w') : RB w' A l := ⟨h.nil, fun ad e j u hu => x.cell (h.cells ad e j u hu)⟩
theorem Own.rb {w : World} {A : Option Addr} {n c : Nat} {l : List UInt8} (h : Own w 5 1 (.slice A n c) n (bytesV l)) (hl : l.length = n) : RB w A l := by
  refine ⟨fun e => ?_, fun ad e j u hu => ?_⟩
  · subst e
    rcases h.2 with ⟨_, e⟩ | ⟨g, cap, cur, e, _⟩
    · omega
    · cases e
  · subst e
    have hj : j < n := by
      rcases Nat.lt_or_ge j n with h | h
      · exact h
      · rw [List.getElem?_eq_none (by rw [bytesV_len]; omega)] at hu; cases hu
    obtain ⟨g, c', e, _⟩ := h.slice (by omega)
    simp only [Value.slice.injEq, Option.some.injEq] at e
    obtain ⟨rfl, _⟩ := e
    rw [add_plain, Nat.zero_add, Own.cell h j (by omega)]
    exact hu
section
variable {W : World} {M : List Thing}
set_option maxRecDepth 20000 in
set_option maxHeartbeats 4000000 in
theorem concat_st {w : World} {g : Nat} {A1 A2 : Option Addr} {n1 c1 n2 c2 : Nat} {l1 l2 : List UInt8} (h : St noB W w (blkT g #[.slice A1 n1 c1, .slice A2 n2 c2] 43 :: M))
    (hr1 : ∀ w', St noB W w' M → RB w' A1 l1) (hr2 : ∀ w', St noB W w' M → RB w' A2 l2) (hl1 : l1.length = n1) (hl2 : l2.length = n2) (h0 : 0 < n1 + n2) (hn1 : n1 ≤ 100000) (hn2 : n2 ≤ 100000) :
    Calls Tryz.prog 76 #[.slice (some ⟨g, 0, none⟩) 2 2] w fun e w' => ∃ A c, e = .returned (.slice A (n1 + n2) c) ∧ St noB W w' (ownT 5 1 (.slice A (n1 + n2) c) (n1 + n2) (bytesV (l1 ++ l2)) :: M) := by
  have HL1 := Lib.hid hl1
  have HL2 := Lib.hid hl2
  clear hl1 hl2
  have hb := h.blk
  have k0 := cell_of_heap hb 0
  have k1 := cell_of_heap hb 1
  change w.cell? _ = some (Value.slice A1 n1 c1) at k0
  change w.cell? _ = some (Value.slice A2 n2 c2) at k1
  clear hb
  go_enter Tryz.func76, Tryz.ntmps76
  go_wp2_with fail
  go_loopw [3, 11] (fun v3 v11 wr => wr = w ∧ ((v3 = .int .i64 0 ∧ v11 = .int .i64 0) ∨ (v3 = .int .i64 n1 ∧ v11 = .int .i64 1) ∨ (v3 = .int .i64 ((n1 : Int) + n2) ∧ v11 = .int .i64 2))) (fun _ v11 _ => 2 - (intOf v11).toNat)
  case atStart => exact ⟨rfl, .inl ⟨rfl, rfl⟩⟩
  case round =>
    obtain ⟨rfl, hc⟩ := hrel
    rcases hc with ⟨rfl, rfl⟩ | ⟨rfl, rfl⟩ | ⟨rfl, rfl⟩
    · go_wp2_with fail
      go_roundw
      case rel => first | exact ⟨trivial, .inr (.inl ⟨rfl, rfl⟩)⟩ | exact ⟨rfl, .inr (.inl ⟨rfl, rfl⟩)⟩
      case measure => first | (simp [intOf]; done) | (simp [intOf]; omega)
    · go_wp2_with fail
      go_roundw
      case rel => first | exact ⟨trivial, .inr (.inr ⟨rfl, rfl⟩)⟩ | exact ⟨rfl, .inr (.inr ⟨rfl, rfl⟩)⟩
      case measure => first | (simp [intOf]; done) | (simp [intOf]; omega)
    · go_wp2_with fail
      have HG := Lib.hid (grow_st h (n1 + n2) h0 (by omega))
      rw [show (((n1 + n2 : Nat)) : Int) = (n1 : Int) + n2 from by omega] at HG
      refine HG.out.mono ?_
      rintro e w2 ⟨A, c, rfl, h2⟩
      clear HG h k0 k1
      go_wp2_with fail
      go_loopw [6, 27] (fun v6 v27 wr => ∃ (k n : Nat) (A : Option Addr) (c : Nat) (l : List UInt8), v6 = .slice A n c ∧ v27 = .int .i64 k ∧ ((k = 0 ∧ n = 0 ∧ Hid (l = [])) ∨ (k = 1 ∧ n = n1 ∧ Hid (l = l1)) ∨ (k = 2 ∧ n = n1 + n2 ∧ Hid (l = l1 ++ l2))) ∧ St noB W wr (ownT 5 1 (.slice A n c) n (bytesV l) :: blkT g #[.slice A1 n1 c1, .slice A2 n2 c2] 43 :: M)) (fun _ v27 _ => 2 - (intOf v27).toNat)
      case atStart => exact ⟨0, 0, A, c, [], rfl, rfl, .inl ⟨rfl, rfl, Lib.hid rfl⟩, h2⟩
      case round =>
        clear h2
        obtain ⟨k, n, A, c, l, rfl, rfl, hc, h⟩ := hrel
        rcases hc with ⟨rfl, rfl, HL⟩ | ⟨rfl, rfl, HL⟩ | ⟨rfl, rfl, HL⟩
        · have hb := h.swap.blk
          have k0 := cell_of_heap hb 0
          change wr.cell? _ = some (Value.slice A1 n1 c1) at k0
          have HR := Lib.hid (hr1 wr h.drop.drop)
          clear hb
          go_wp2_with (at_builtin; refine wpList_pushAll rfl _ _ _ rfl 5 (.int .u8 0) 1 1 Tryz.underlying43 byte_info rfl (by decide) h h A1 n1 c1 (bytesV l1) rfl rfl (by rw [bytesV_len, HL1.out]; omega) (fun e => by rw [← HL1.out]; exact HR.out.nil e) HR.out.cells (bytesV_one _) (by unfold maxLen; omega) (by omega) ?_; intro A' c' w3 h3 h4)
          rw [← bytesV_append, Nat.zero_add] at h3
          refine ⟨⟨1, n1, A', c', l ++ l1, rfl, by go_num, .inr (.inl ⟨rfl, rfl, Lib.hid (by rw [HL.out]; rfl)⟩), h3⟩, by simp [intOf]⟩
        · have hb := h.swap.blk
          have k1 := cell_of_heap hb 1
          change wr.cell? _ = some (Value.slice A2 n2 c2) at k1
          have HR := Lib.hid (hr2 wr h.drop.drop)
          clear hb
          go_wp2_with (at_builtin; refine wpList_pushAll rfl _ _ _ rfl 5 (.int .u8 0) 1 1 Tryz.underlying43 byte_info rfl (by decide) h h A2 n2 c2 (bytesV l2) rfl rfl (by rw [bytesV_len, HL2.out]; omega) (fun e => by rw [← HL2.out]; exact HR.out.nil e) HR.out.cells (bytesV_one _) (by unfold maxLen; omega) (by omega) ?_; intro A' c' w3 h3 h4)
          rw [← bytesV_append] at h3
          refine ⟨⟨2, n + n2, A', c', l ++ l2, rfl, by go_num, .inr (.inr ⟨rfl, rfl, Lib.hid (by rw [HL.out])⟩), h3⟩, by simp [intOf]⟩
        · go_wp2_with fail
          go_ret
          rw [HL.out] at h
          exact ⟨A, c, rfl, h.swap.drop⟩
end
end Go.Proofs.YtjdglpngcdcneaaGreat

/- Arrays of 256 numbers. -/
namespace Go.Proofs.YtjdglpngcdcneaaGreat
open Go.RowKit
set_option linter.unusedVariables false
set_option linter.unusedSimpArgs false
set_option linter.unusedSectionVars false
def tabV (k : IntKind) (t : Nat → Nat) : Array Value := Array.ofFn (n := 256) fun i => Value.int k (t i)
theorem tabV_size (k : IntKind) (t : Nat → Nat) : (tabV k t).size = 256 := by simp [tabV]
theorem tabV_get (k : IntKind) (t : Nat → Nat) (i : Nat) (h : i < 256) : (tabV k t)[i]? = some (.int k (t i)) := by simp [tabV, h]
theorem tabV_congr {k : IntKind} {t u : Nat → Nat} (h : ∀ i, i < 256 → t i = u i) : tabV k t = tabV k u := by
  apply Array.ext_getElem?
  intro i
  by_cases hi : i < 256
  · rw [tabV_get k t i hi, tabV_get k u i hi, h i hi]
  · rw [Array.getElem?_eq_none (by rw [tabV_size]; omega), Array.getElem?_eq_none (by rw [tabV_size]; omega)]
theorem tabV_one (k : IntKind) (t : Nat → Nat) : (tabV k t).all (·.oneCell') = true := by
  rw [Array.all_eq_true]
  intro i hi
  simp [tabV, Value.oneCell']
/-- one entry is another one -/
def upd (t : Nat → Nat) (i v : Nat) : Nat → Nat := fun j => if j = i then v else t j
theorem upd_self (t : Nat → Nat) (i v : Nat) : upd t i v i = v := by unfold upd; rw [if_pos rfl]
theorem upd_ne (t : Nat → Nat) {i j : Nat} (v : Nat) (h : j ≠ i) : upd t i v j = t j := by unfold upd; rw [if_neg h]
theorem tabV_set (k : IntKind) (t : Nat → Nat) (i v : Nat) (h : i < 256) : (tabV k t).setIfInBounds i (.int k v) = tabV k (upd t i v) := by
  apply Array.ext_getElem?
  intro j
  rw [Array.getElem?_setIfInBounds]
  by_cases hj : j < 256
  · rw [tabV_get k (upd t i v) j hj, tabV_size]
    by_cases e : i = j
    · subst e; rw [if_pos rfl, if_pos h, upd_self]
    · rw [if_neg e, tabV_get k t j hj, upd_ne t v (fun e2 => e e2.symm)]
  · rw [tabV_size, if_neg (by omega), Array.getElem?_eq_none (by rw [tabV_size]; omega), Array.getElem?_eq_none (by rw [tabV_size]; omega)]
theorem zero64 : ∀ w, (zeroValue 76).run Tryz.prog w = .ok (.agg (tabV .u64 (fun _ => 0))) w := fun _ => by kernel_rfl
theorem zero8 : ∀ w, (zeroValue 74).run Tryz.prog w = .ok (.agg (tabV .u8 (fun _ => 0))) w := fun _ => by kernel_rfl
theorem size64 (t : Nat → Nat) : (Tryz.prog.info? 76).map (·.size) = some (tabV .u64 t).size := by rw [tabV_size]; kernel_rfl
theorem size8 (t : Nat → Nat) : (Tryz.prog.info? 74).map (·.size) = some (tabV .u8 t).size := by rw [tabV_size]; kernel_rfl
theorem run_index_arr {P : Program} {ty e : TypeId} {n : Nat} (hu : P.underlying ty = some (.array n e)) {k : IntKind} (he : P.underlying e = some (.int k)) (hs : (P.info? e).map (·.size) = some 1) (cs : Array Value) (i : Nat) (v : Value) (hi : i < n) (hv : cs[i]? = some v) (w : World) :
    (Instr.index ty (.agg cs) (.int .i64 i)).run P w = .ok v w := by
  obtain ⟨inf, h1, h2⟩ := Option.map_eq_some_iff.1 hs
  have ha : (asIntOf (.int .i64 (i : Int))).run P w = .ok (.i64, (i : Int)) w := rfl
  have hb : (0 : Int) ≤ (i : Int) ∧ (i : Int) < (n : Int) := by omega
  simp [Instr.index, ha, run_underlying hu, run_underlying he, hb, part, isAgg, sizeOf, typeInfo, h1, h2, hv, Result.andThen]
  intro h; omega
theorem index8 (cs : Array Value) (i : Nat) (v : Value) (hi : i < 256) (hv : cs[i]? = some v) (w : World) : (Instr.index 74 (.agg cs) (.int .i64 i)).run Tryz.prog w = .ok v w :=
  run_index_arr Tryz.underlying74 Tryz.underlying5 (by kernel_rfl) cs i v hi hv w
theorem index64 (cs : Array Value) (i : Nat) (v : Value) (hi : i < 256) (hv : cs[i]? = some v) (w : World) : (Instr.index 76 (.agg cs) (.int .i64 i)).run Tryz.prog w = .ok v w :=
  run_index_arr Tryz.underlying76 Tryz.underlying34 (by kernel_rfl) cs i v hi hv w
end Go.Proofs.YtjdglpngcdcneaaGreat

/- Layer 7: counts. -/
namespace Go.Proofs.YtjdglpngcdcneaaGreat
open Go.RowKit
set_option linter.unusedVariables false
set_option linter.unusedSimpArgs false
set_option linter.unusedSectionVars false
/-- how often byte c is there -/
def cntF (l : List UInt8) (c : Nat) : Nat := l.countP (fun x => x.toNat == c)
theorem cntF_le (l : List UInt8) (c : Nat) : cntF l c ≤ l.length := List.countP_le_length
theorem cntF_snoc (l : List UInt8) (x : UInt8) : (fun c => cntF (l ++ [x]) c) = upd (cntF l) x.toNat (cntF l x.toNat + 1) := by
  funext c
  unfold upd cntF
  rw [List.countP_append]
  by_cases h : c = x.toNat
  · subst h; simp
  · rw [if_neg h, List.countP_singleton, if_neg (by simpa using fun e => h e.symm)]; rfl
set_option maxRecDepth 20000 in
set_option maxHeartbeats 4000000 in
theorem count_any (s : ByteArray) (hs : s.size ≤ 140737488351232) (w : World) :
    Calls Tryz.prog 37 #[.string s] w fun e w' => e = .returned (.agg (tabV .u64 (cntF s.data.toList))) ∧ Ext w w' := by
  have hz := zero64
  go_enter Tryz.func37, Tryz.ntmps37
  go_wp2
  have h1 := (St.start noB w).alloc (tabV .u64 (fun _ => 0)) 76
  generalize w.heap.size = g at h1 ⊢
  generalize w.alloc (.cells (tabV .u64 (fun _ => 0)) 76) = w1 at h1 ⊢
  clear hz
  go_loopw [6] (fun v6 wr => ∃ i : Nat, v6 = .int .i64 i ∧ i ≤ s.size ∧ St noB w wr [blkT g (tabV .u64 (cntF (s.data.toList.take i))) 76]) (fun v6 _ => s.size - (intOf v6).toNat)
  case atStart => exact ⟨0, rfl, Nat.zero_le _, h1⟩
  case round =>
    clear h1
    obtain ⟨i, rfl, hi, h⟩ := hrel
    by_cases hlt : i < s.size
    · have hx8 := s[i].toNat_lt
      have ht : s.data.toList.take (i + 1) = s.data.toList.take i ++ [s[i]] := by
        rw [List.take_succ_eq_append_getElem (by simpa using hlt)]; rfl
      have hle := cntF_le (s.data.toList.take i) s[i].toNat
      rw [List.length_take] at hle
      have hb := h.blk
      have k0 := cell_of_heap hb s[i].toNat
      rw [tabV_get _ _ _ (by omega)] at k0
      have f0 := free_of_heap hb s[i].toNat
      have h2 := h.set s[i].toNat (.int .u64 ((cntF (s.data.toList.take i) s[i].toNat + 1 : Nat) : Int))
      rw [tabV_set _ _ _ _ (by omega), ← cntF_snoc, ← ht] at h2
      clear h hb ht
      obtain ⟨x, hx⟩ : ∃ x, s[i].toNat = x := ⟨_, rfl⟩
      rw [hx] at k0 f0 h2 hx8 hle
      generalize cntF (s.data.toList.take i) x = q at k0 h2 hle
      have hlz : (i : Int) < (s.size : Int) := by omega
      have hw : IntKind.u64.wrap ((q : Int) + 1) = (q : Int) + 1 := by rw [IntKind.wrap_u64]; omega
      go_wp2_with fail
      go_roundw
      case rel => first | exact ⟨i + 1, by go_num, by omega, h2⟩ | ((repeat apply Exists.intro); exact ⟨⟨i + 1, by go_num, by omega, h2⟩, rfl⟩)
      case measure => first | (simp [intOf]; done) | (simp [intOf]; omega)
    · obtain rfl : i = s.size := by omega
      rw [List.take_of_length_le (by simp)] at h
      have hlz : ¬ (s.size : Int) < (s.size : Int) := by omega
      have hb := Lib.hid h.blk
      obtain ⟨q, hq⟩ : ∃ q, q = cntF s.data.toList := ⟨_, rfl⟩
      rw [← hq] at h hb
      have HQ := Lib.hid hq
      clear hq
      have HE := Lib.hid h.ends
      clear h
      go_wp2_with (first
        | (refine wpList_load_row rfl _ _ rfl g rfl 76 (tabV .u64 q) (0, 0) (.array 256 34) hb.out Tryz.underlying76 rfl (size64 _) ?_)
        | (refine wpList_store_row rfl _ _ _ rfl g (tabV .u64 q) rfl rfl 76 (tabV .u64 q) hb.out (size64 _) rfl (tabV_one _ _) ?_; rw [setRow_self _ _ _ _ _ hb.out]))
      refine bodyPost_ret_by (v := .agg (tabV .u64 q)) (results_cell_row rfl _ _ g 76 (tabV .u64 q) (0, 0) (.array 256 34) rfl hb.out Tryz.underlying76 rfl (size64 _)) rfl ?_
      rw [← HQ.out]
      exact ⟨rfl, HE.out⟩
end Go.Proofs.YtjdglpngcdcneaaGreat

/- Layer 7: codes. -/
namespace Go.Proofs.YtjdglpngcdcneaaGreat
open Go.RowKit
set_option linter.unusedVariables false
set_option linter.unusedSimpArgs false
set_option linter.unusedSectionVars false
theorem results_pairH {P : Program} {fn : Func} {p u : Tmp} {ty : TypeId} (h : fn.results = #[.cell p ty, .tmp u]) (tmps : Array Value) (w : World) (g : Nat) (t : TypeId) (cs : Array Value) (fr : Nat × Nat) (d : TypeDesc)
    (hp : tmps.getD p undef = .pointer (some ⟨g, 0, none⟩)) (hg : w.heap[g]? = some (.cells cs t fr))
    (hu : P.underlying ty = some d) (hd : (match d with | .struct _ | .array _ _ => true | _ => false) = true) (hi : (P.info? ty).map (·.size) = some cs.size) :
    (results fn tmps).run P w = .ok (.tuple #[.agg cs, tmps.getD u undef]) w := by
  rw [results_cell_tmp h, hp]
  simp [asAddr, Result.andThen, run_loadVar_row w g t ty cs fr d hg hu hd hi]
/-- the sum of the parts, and how many codes there are, of the first i lengths -/
def sumT (t : Nat → Nat) : Nat → Nat
  | 0 => 0
  | i + 1 => sumT t i + (if 0 < t i then 2 ^ (56 - t i) else 0)
def cntT (t : Nat → Nat) : Nat → Nat
  | 0 => 0
  | i + 1 => cntT t i + (if 0 < t i then 1 else 0)
theorem pow_55 : (2 : Nat) ^ 55 = 36028797018963968 := rfl
theorem pow_part (k : Nat) (h : 0 < k) : 2 ^ (56 - k) ≤ 36028797018963968 := by
  rw [← pow_55]
  exact Nat.pow_le_pow_right (by omega) (by omega)
theorem pow_quot (k : Nat) (h : k ≤ 56) : (72057594037927936 : Int) / 2 ^ k = ((2 ^ (56 - k) : Nat) : Int) := by
  have e : (72057594037927936 : Nat) / 2 ^ k = 2 ^ (56 - k) := by
    rw [show (72057594037927936 : Nat) = 2 ^ 56 from rfl, Nat.pow_div h (by omega)]
  rw [← e, Int.natCast_ediv, Int.natCast_pow]; rfl
theorem size_alloc' (w : World) (o : Obj) : (w.alloc o).heap.size = w.heap.size + 1 := by show (w.heap.push o).size = _; simp
theorem sumT_le (t : Nat → Nat) : ∀ i, sumT t i ≤ i * 36028797018963968
  | 0 => Nat.zero_le _
  | i + 1 => by
    have ih := sumT_le t i
    have e : (i + 1) * 36028797018963968 = i * 36028797018963968 + 36028797018963968 := Nat.succ_mul _ _
    rw [e]
    unfold sumT
    by_cases h : 0 < t i
    · rw [if_pos h]; exact Nat.add_le_add ih (pow_part (t i) h)
    · rw [if_neg h]; exact Nat.le_trans ih (Nat.le_add_right _ _)
theorem cntT_le (t : Nat → Nat) : ∀ i, cntT t i ≤ i
  | 0 => Nat.le_refl _
  | i + 1 => by have := cntT_le t i; unfold cntT; split <;> omega
/-- codes: one length's round over the first i bytes; all lengths up to k -/
def cIn (t : Nat → Nat) (k : Nat) : Nat → Nat × (Nat → Nat) → Nat × (Nat → Nat)
  | 0, s => s
  | i + 1, s => if t i = k + 1 then (((cIn t k i s).1 + 1) % 18446744073709551616, upd (cIn t k i s).2 i (cIn t k i s).1) else cIn t k i s
def cOut (t : Nat → Nat) : Nat → Nat × (Nat → Nat)
  | 0 => (0, fun _ => 0)
  | k + 1 => cIn t k 256 ((cOut t k).1 * 2 % 18446744073709551616, (cOut t k).2)
def greatT (t : Nat → Nat) : Bool := (List.range 256).any fun i => decide (56 < t i)
def codE (t : Nat → Nat) : Nat := if greatT t then 1 else if 0 < cntT t 256 ∧ sumT t 256 ≠ 72057594037927936 ∧ ¬ (cntT t 256 = 1 ∧ sumT t 256 = 36028797018963968) then 3 else 0
def codT (t : Nat → Nat) : Nat → Nat := if codE t = 0 then (cOut t 56).2 else fun _ => 0
set_option maxRecDepth 20000 in
set_option maxHeartbeats 8000000 in
theorem codes_any (t : Nat → Nat) (ht : ∀ i, i < 256 → t i < 256) (w : World) :
    Calls Tryz.prog 38 #[.agg (tabV .u8 t)] w fun e w' => e = .returned (.tuple #[.agg (tabV .u64 (codT t)), .int .i64 (codE t : Nat)]) ∧ Ext w w' := by
  obtain ⟨T, hT⟩ : ∃ T, T = tabV .u8 t := ⟨_, rfl⟩
  have hT0 : ∀ i, i < 256 → T[i]? = some (.int .u8 (t i)) := fun i hi => by rw [hT]; exact tabV_get _ _ i hi
  have hTs : T.size = 256 := by rw [hT, tabV_size]
  rw [← hT]
  have HT := Lib.hid hT
  clear hT
  have hz := zero64
  have h1 := ((St.start noB w).alloc T 74).alloc (tabV .u64 (fun _ => 0)) 76
  go_enter Tryz.func38, Tryz.ntmps38
  rw [size_alloc'] at h1
  have hb := h1.swap.blk
  have hs8 : (Tryz.prog.info? 74).map (·.size) = some T.size := by rw [hTs]; kernel_rfl
  go_wp2_with (refine wpList_load_row rfl _ _ rfl w.heap.size rfl 74 T (0, 0) (.array 256 5) hb Tryz.underlying74 rfl hs8 ?_)
  clear hb hs8 hz
  have h2 : St noB w _ [blkT (w.heap.size + 1) (tabV .u64 (fun _ => 0)) 76, blkT w.heap.size T 74] := h1
  clear h1
  generalize hw1 : (w.alloc (.cells T 74)).alloc (.cells (tabV .u64 (fun _ => 0)) 76) = w1 at h2 ⊢
  generalize w.heap.size + 1 = cb at h2 ⊢
  generalize w.heap.size = lb at h2 ⊢
  have HG : Hid (∀ j, j < 0 → t j ≤ 56) := Lib.hid (fun j hj => by omega)
  go_loopw [4, 5, 12] (fun v4 v5 v12 wr => ∃ i : Nat, v4 = .int .u64 (sumT t i) ∧ v5 = .int .i64 (cntT t i) ∧ v12 = .int .i64 i ∧ i ≤ 256 ∧ Hid (∀ j, j < i → t j ≤ 56) ∧ wr = w1) (fun _ _ v12 _ => 256 - (intOf v12).toNat)
  case atStart => exact ⟨0, rfl, rfl, rfl, by omega, HG, rfl⟩
  case round =>
    clear HG hw1
    obtain ⟨i, rfl, rfl, rfl, hi, HG, rfl⟩ := hrel
    by_cases hlt : i < 256
    · have hT1 := fun w => index8 T i _ hlt (hT0 i hlt) w
      have ht1 := ht i hlt
      have hs := sumT_le t i
      have hcn := cntT_le t i
      have hlz : (i : Int) < 256 := by omega
      by_cases hg : 56 < t i
      · have hg2 : (56 : Int) < (t i : Int) := by omega
        have hE : codE t = 1 := by
          unfold codE
          rw [if_pos]
          unfold greatT
          rw [List.any_eq_true]
          exact ⟨i, List.mem_range.2 hlt, decide_eq_true hg⟩
        have HE := Lib.hid hE
        have hb := Lib.hid h2.blk
        clear hs hcn hE hg
        generalize t i = x at hT1 ht1 hg2
        go_wp2_with (first
          | (refine wpList_load_row rfl _ _ rfl cb rfl 76 (tabV .u64 (fun _ => 0)) (0, 0) (.array 256 34) hb.out Tryz.underlying76 rfl (size64 _) ?_)
          | (refine wpList_store_row rfl _ _ _ rfl cb (tabV .u64 (fun _ => 0)) rfl rfl 76 (tabV .u64 (fun _ => 0)) hb.out (size64 _) rfl (tabV_one _ _) ?_; rw [setRow_self _ _ _ _ _ hb.out]))
        refine bodyPost_ret_by (results_pairH rfl _ _ cb 76 _ (0, 0) (.array 256 34) rfl hb.out Tryz.underlying76 rfl (size64 _)) rfl ?_
        unfold codT
        rw [HE.out, if_neg (by omega)]
        exact ⟨rfl, h2.ends⟩
      · have HG2 : Hid (∀ j, j < i + 1 → t j ≤ 56) := Lib.hid (fun j hj => by
          by_cases e : j = i
          · subst e; omega
          · exact HG.out j (by omega))
        by_cases hz : t i = 0
        · have e1 : sumT t (i + 1) = sumT t i := by rw [sumT, if_neg (by omega)]; rfl
          have e2 : cntT t (i + 1) = cntT t i := by rw [cntT, if_neg (by omega)]; rfl
          rw [hz] at hT1
          clear hg ht1 HG hz
          have H1 := Lib.hid e1
          have H2 := Lib.hid e2
          clear e1 e2
          go_wp2_with fail
          exact ⟨⟨i + 1, by rw [H1.out], by rw [H2.out], by go_num, by omega, HG2, trivial⟩, by simp [intOf]; omega⟩
        · have hz2 : (0 : Int) < (t i : Int) := by omega
          have hg2 : ¬ (56 : Int) < (t i : Int) := by omega
          have H1 := Lib.hid (show sumT t (i + 1) = sumT t i + 2 ^ (56 - t i) by rw [sumT, if_pos (by omega)])
          have H2 := Lib.hid (show cntT t (i + 1) = cntT t i + 1 by rw [cntT, if_pos (by omega)])
          have hp := pow_part (t i) (by omega)
          have hq := Lib.hid (pow_quot (t i) (by omega))
          generalize t i = x at hT1 ht1 hz2 hg2 H1 hp hq
          have hq2 := Lib.hid (show IntKind.u64.wrap ((sumT t i : Int) + 72057594037927936 / 2 ^ x) = ((sumT t (i + 1) : Nat) : Int) by
            rw [hq.out, H1.out]
            generalize 2 ^ (56 - x) = y at hp ⊢
            rw [IntKind.wrap_u64]; omega)
          clear hg HG hz
          go_wp2_with fail
          exact ⟨⟨i + 1, by rw [hq2.out], by rw [H2.out]; go_num, by go_num, by omega, HG2, trivial⟩, by simp [intOf]; omega⟩
    · obtain rfl : i = 256 := by omega
      have hgr : greatT t = false := by
        unfold greatT
        rw [List.any_eq_false]
        intro j hj
        have := HG.out j (List.mem_range.1 hj)
        simp; omega
      have hlz : ¬ (256 : Int) < 256 := by omega
      have hE : codE t = if 0 < cntT t 256 ∧ sumT t 256 ≠ 72057594037927936 ∧ ¬ (cntT t 256 = 1 ∧ sumT t 256 = 36028797018963968) then 3 else 0 := by
        unfold codE; rw [if_neg (by rw [hgr]; exact Bool.false_ne_true)]
      have HE := Lib.hid hE
      clear hE hgr HG hlt hi
      have hs := sumT_le t 256
      have hcn := cntT_le t 256
      generalize sumT t 256 = q at HE hs ⊢
      generalize cntT t 256 = c at HE hcn ⊢
      by_cases hA : 0 < c ∧ q ≠ 72057594037927936 ∧ ¬ (c = 1 ∧ q = 36028797018963968)
      · have HE3 : Hid (codE t = 3) := Lib.hid (by rw [HE.out, if_pos hA])
        clear HE
        obtain ⟨a1, a2, a3⟩ := hA
        have b1 : (0 : Int) < (c : Int) := by omega
        have b2 : ¬ ((q : Int) = 72057594037927936) := by omega
        have b5 : ((q : Int) != 72057594037927936) = true := by rw [bne_iff_ne]; exact b2
        have hb := Lib.hid h2.blk
        by_cases c1 : c = 1
        · have b3 : ¬ ((q : Int) = 36028797018963968) := by omega
          have b6 : ((q : Int) == 36028797018963968) = false := by rw [beq_eq_false_iff_ne]; exact b3
          have b4 : (c : Int) = 1 := by omega
          clear a1 a2 a3 c1
          go_wp2_with (first
            | (refine wpList_load_row rfl _ _ rfl cb rfl 76 (tabV .u64 (fun _ => 0)) (0, 0) (.array 256 34) hb.out Tryz.underlying76 rfl (size64 _) ?_)
            | (refine wpList_store_row rfl _ _ _ rfl cb (tabV .u64 (fun _ => 0)) rfl rfl 76 (tabV .u64 (fun _ => 0)) hb.out (size64 _) rfl (tabV_one _ _) ?_; rw [setRow_self _ _ _ _ _ hb.out]))
          refine bodyPost_ret_by (results_pairH rfl _ _ cb 76 _ (0, 0) (.array 256 34) rfl hb.out Tryz.underlying76 rfl (size64 _)) rfl ?_
          unfold codT
          rw [HE3.out, if_neg (by omega)]
          exact ⟨rfl, h2.ends⟩
        · have b3 : ¬ ((c : Int) = 1) := by omega
          clear a1 a2 a3 c1
          go_wp2_with (first
            | (refine wpList_load_row rfl _ _ rfl cb rfl 76 (tabV .u64 (fun _ => 0)) (0, 0) (.array 256 34) hb.out Tryz.underlying76 rfl (size64 _) ?_)
            | (refine wpList_store_row rfl _ _ _ rfl cb (tabV .u64 (fun _ => 0)) rfl rfl 76 (tabV .u64 (fun _ => 0)) hb.out (size64 _) rfl (tabV_one _ _) ?_; rw [setRow_self _ _ _ _ _ hb.out]))
          refine bodyPost_ret_by (results_pairH rfl _ _ cb 76 _ (0, 0) (.array 256 34) rfl hb.out Tryz.underlying76 rfl (size64 _)) rfl ?_
          unfold codT
          rw [HE3.out, if_neg (by omega)]
          exact ⟨rfl, h2.ends⟩
      · have HE0 : Hid (codE t = 0) := Lib.hid (by rw [HE.out, if_neg hA])
        clear HE
        by_cases c0 : c = 0
        · have b1 : ¬ (0 : Int) < (c : Int) := by omega
          clear hA hcn c0
          go_wp2_with fail
          clear hs
          go_loopw [8, 43] (fun v8 v43 wr => ∃ k : Nat, v8 = .int .u64 (cOut t k).1 ∧ v43 = .int .u8 k ∧ k ≤ 56 ∧ St noB w wr [blkT cb (tabV .u64 (cOut t k).2) 76, blkT lb T 74]) (fun _ v43 _ => 56 - (intOf v43).toNat)
          case atStart => exact ⟨0, rfl, rfl, by omega, h2⟩
          case round =>
            clear h2
            obtain ⟨k, rfl, rfl, hk, h⟩ := hrel
            by_cases hlt : k < 56
            · have hl1 : (k : Int) < 56 := by omega
              have hm : IntKind.u64.wrap (((cOut t k).1 : Int) * 2) = (((cOut t k).1 * 2 % 18446744073709551616 : Nat) : Int) := by rw [IntKind.wrap_u64]; omega
              have hk8 : IntKind.u8.wrap ((k : Int) + 1) = (k : Int) + 1 := by rw [IntKind.wrap_u8]; omega
              have HS : Hid (cOut t (k + 1) = cIn t k 256 ((cOut t k).1 * 2 % 18446744073709551616, (cOut t k).2)) := Lib.hid rfl
              obtain ⟨s, hs⟩ : ∃ s, s = ((cOut t k).1 * 2 % 18446744073709551616, (cOut t k).2) := ⟨_, rfl⟩
              have e1 : (cOut t k).1 * 2 % 18446744073709551616 = s.1 := by rw [hs]
              have e2 : (cOut t k).2 = s.2 := by rw [hs]
              rw [e1] at hm
              rw [e2] at h
              rw [← hs] at HS
              clear hs e1 e2
              generalize (cOut t k).1 = c0 at hm ⊢
              go_wp2_with fail
              clear hm
              go_loopw [8, 48] (fun v8 v48 wr => ∃ i : Nat, v8 = .int .u64 (cIn t k i s).1 ∧ v48 = .int .i64 i ∧ i ≤ 256 ∧ St noB w wr [blkT cb (tabV .u64 (cIn t k i s).2) 76, blkT lb T 74]) (fun _ v48 _ => 256 - (intOf v48).toNat)
              case atStart => exact ⟨0, rfl, rfl, by omega, h⟩
              case round =>
                clear h
                obtain ⟨i, rfl, rfl, hi, h⟩ := hrel
                by_cases hli : i < 256
                · have hl2 : (i : Int) < 256 := by omega
                  have k1 := cell_of_heap h.swap.blk i
                  rw [hT0 i hli] at k1
                  by_cases e : t i = k + 1
                  · have f0 := free_of_heap h.blk i
                    have k0 := cell_of_heap h.blk i
                    rw [tabV_get _ _ _ hli] at k0
                    have h3 := h.set i (.int .u64 ((cIn t k i s).1 : Nat))
                    rw [tabV_set _ _ _ _ hli] at h3
                    have E1 : cIn t k (i + 1) s = (((cIn t k i s).1 + 1) % 18446744073709551616, upd (cIn t k i s).2 i (cIn t k i s).1) := by rw [cIn, if_pos e]
                    have E2 : (cIn t k (i + 1) s).1 = ((cIn t k i s).1 + 1) % 18446744073709551616 := by rw [E1]
                    have E3 : (cIn t k (i + 1) s).2 = upd (cIn t k i s).2 i (cIn t k i s).1 := by rw [E1]
                    rw [← E3] at h3
                    have hw : IntKind.u64.wrap (((cIn t k i s).1 : Int) + 1) = ((cIn t k (i + 1) s).1 : Nat) := by rw [E2, IntKind.wrap_u64]; omega
                    clear h E1 E2 E3
                    generalize (cIn t k i s).1 = p at hw f0 h3 ⊢
                    generalize (cIn t k i s).2 i = p0 at k0
                    rw [e] at k1
                    clear e
                    go_wp2_with fail
                    go_roundw
                    case rel => first | exact ⟨i + 1, rfl, by go_num, by omega, h3⟩ | ((repeat apply Exists.intro); exact ⟨⟨i + 1, rfl, by go_num, by omega, h3⟩, rfl⟩)
                    case measure => first | (simp [intOf]; done) | (simp [intOf]; omega)
                  · have e2 : ¬ ((t i : Int) = (k : Int) + 1) := by omega
                    have E1 : cIn t k (i + 1) s = cIn t k i s := by rw [cIn, if_neg e]
                    rw [← E1] at h ⊢
                    clear e E1
                    generalize t i = x at k1 e2
                    go_wp2_with fail
                    go_roundw
                    case rel => first | exact ⟨i + 1, rfl, by go_num, by omega, h⟩ | ((repeat apply Exists.intro); exact ⟨⟨i + 1, rfl, by go_num, by omega, h⟩, rfl⟩)
                    case measure => first | (simp [intOf]; done) | (simp [intOf]; omega)
                · obtain rfl : i = 256 := by omega
                  have hl2 : ¬ (256 : Int) < 256 := by omega
                  rw [← HS.out] at h ⊢
                  go_wp2_with fail
                  go_roundw
                  case rel => first | exact ⟨k + 1, rfl, by go_num, by omega, h⟩ | ((repeat apply Exists.intro); exact ⟨⟨k + 1, rfl, by go_num, by omega, h⟩, rfl⟩)
                  case measure => first | (simp [intOf]; done) | (simp [intOf]; omega)
            · have hl1 : ¬ (k : Int) < 56 := by omega
              have hb := Lib.hid h.blk
              have HF : Hid (codT t = (cOut t k).2) := Lib.hid (by obtain rfl : k = 56 := by omega
                                                                   unfold codT; rw [if_pos HE0.out])
              clear hlt hk
              have HX := Lib.hid h.ends
              clear h
              rw [← HF.out] at hb
              clear HF
              obtain ⟨ct, hct⟩ : ∃ ct, ct = codT t := ⟨_, rfl⟩
              rw [← hct] at hb
              have HC := Lib.hid hct
              clear hct
              generalize (cOut t k).1 = co
              go_wp2_with (first
                | (refine wpList_load_row rfl _ _ rfl cb rfl 76 (tabV .u64 ct) (0, 0) (.array 256 34) hb.out Tryz.underlying76 rfl (size64 _) ?_)
                | (refine wpList_store_row rfl _ _ _ rfl cb (tabV .u64 ct) rfl rfl 76 (tabV .u64 ct) hb.out (size64 _) rfl (tabV_one _ _) ?_; rw [setRow_self _ _ _ _ _ hb.out]))
              rw [← HC.out, HE0.out]
              refine bodyPost_ret_by (results_pairH rfl _ _ cb 76 _ (0, 0) (.array 256 34) rfl hb.out Tryz.underlying76 rfl (size64 _)) rfl ?_
              exact ⟨rfl, HX.out⟩
        · have b1 : (0 : Int) < (c : Int) := by omega
          by_cases c1 : q = 72057594037927936
          · have b2 : (q : Int) = 72057594037927936 := by omega
            clear hA hcn c0 c1
            go_wp2_with fail
            clear hs
            go_loopw [8, 43] (fun v8 v43 wr => ∃ k : Nat, v8 = .int .u64 (cOut t k).1 ∧ v43 = .int .u8 k ∧ k ≤ 56 ∧ St noB w wr [blkT cb (tabV .u64 (cOut t k).2) 76, blkT lb T 74]) (fun _ v43 _ => 56 - (intOf v43).toNat)
            case atStart => exact ⟨0, rfl, rfl, by omega, h2⟩
            case round =>
              clear h2
              obtain ⟨k, rfl, rfl, hk, h⟩ := hrel
              by_cases hlt : k < 56
              · have hl1 : (k : Int) < 56 := by omega
                have hm : IntKind.u64.wrap (((cOut t k).1 : Int) * 2) = (((cOut t k).1 * 2 % 18446744073709551616 : Nat) : Int) := by rw [IntKind.wrap_u64]; omega
                have hk8 : IntKind.u8.wrap ((k : Int) + 1) = (k : Int) + 1 := by rw [IntKind.wrap_u8]; omega
                have HS : Hid (cOut t (k + 1) = cIn t k 256 ((cOut t k).1 * 2 % 18446744073709551616, (cOut t k).2)) := Lib.hid rfl
                obtain ⟨s, hs⟩ : ∃ s, s = ((cOut t k).1 * 2 % 18446744073709551616, (cOut t k).2) := ⟨_, rfl⟩
                have e1 : (cOut t k).1 * 2 % 18446744073709551616 = s.1 := by rw [hs]
                have e2 : (cOut t k).2 = s.2 := by rw [hs]
                rw [e1] at hm
                rw [e2] at h
                rw [← hs] at HS
                clear hs e1 e2
                generalize (cOut t k).1 = c0 at hm ⊢
                go_wp2_with fail
                clear hm
                go_loopw [8, 48] (fun v8 v48 wr => ∃ i : Nat, v8 = .int .u64 (cIn t k i s).1 ∧ v48 = .int .i64 i ∧ i ≤ 256 ∧ St noB w wr [blkT cb (tabV .u64 (cIn t k i s).2) 76, blkT lb T 74]) (fun _ v48 _ => 256 - (intOf v48).toNat)
                case atStart => exact ⟨0, rfl, rfl, by omega, h⟩
                case round =>
                  clear h
                  obtain ⟨i, rfl, rfl, hi, h⟩ := hrel
                  by_cases hli : i < 256
                  · have hl2 : (i : Int) < 256 := by omega
                    have k1 := cell_of_heap h.swap.blk i
                    rw [hT0 i hli] at k1
                    by_cases e : t i = k + 1
                    · have f0 := free_of_heap h.blk i
                      have k0 := cell_of_heap h.blk i
                      rw [tabV_get _ _ _ hli] at k0
                      have h3 := h.set i (.int .u64 ((cIn t k i s).1 : Nat))
                      rw [tabV_set _ _ _ _ hli] at h3
                      have E1 : cIn t k (i + 1) s = (((cIn t k i s).1 + 1) % 18446744073709551616, upd (cIn t k i s).2 i (cIn t k i s).1) := by rw [cIn, if_pos e]
                      have E2 : (cIn t k (i + 1) s).1 = ((cIn t k i s).1 + 1) % 18446744073709551616 := by rw [E1]
                      have E3 : (cIn t k (i + 1) s).2 = upd (cIn t k i s).2 i (cIn t k i s).1 := by rw [E1]
                      rw [← E3] at h3
                      have hw : IntKind.u64.wrap (((cIn t k i s).1 : Int) + 1) = ((cIn t k (i + 1) s).1 : Nat) := by rw [E2, IntKind.wrap_u64]; omega
                      clear h E1 E2 E3
                      generalize (cIn t k i s).1 = p at hw f0 h3 ⊢
                      generalize (cIn t k i s).2 i = p0 at k0
                      rw [e] at k1
                      clear e
                      go_wp2_with fail
                      go_roundw
                      case rel => first | exact ⟨i + 1, rfl, by go_num, by omega, h3⟩ | ((repeat apply Exists.intro); exact ⟨⟨i + 1, rfl, by go_num, by omega, h3⟩, rfl⟩)
                      case measure => first | (simp [intOf]; done) | (simp [intOf]; omega)
                    · have e2 : ¬ ((t i : Int) = (k : Int) + 1) := by omega
                      have E1 : cIn t k (i + 1) s = cIn t k i s := by rw [cIn, if_neg e]
                      rw [← E1] at h ⊢
                      clear e E1
                      generalize t i = x at k1 e2
                      go_wp2_with fail
                      go_roundw
                      case rel => first | exact ⟨i + 1, rfl, by go_num, by omega, h⟩ | ((repeat apply Exists.intro); exact ⟨⟨i + 1, rfl, by go_num, by omega, h⟩, rfl⟩)
                      case measure => first | (simp [intOf]; done) | (simp [intOf]; omega)
                  · obtain rfl : i = 256 := by omega
                    have hl2 : ¬ (256 : Int) < 256 := by omega
                    rw [← HS.out] at h ⊢
                    go_wp2_with fail
                    go_roundw
                    case rel => first | exact ⟨k + 1, rfl, by go_num, by omega, h⟩ | ((repeat apply Exists.intro); exact ⟨⟨k + 1, rfl, by go_num, by omega, h⟩, rfl⟩)
                    case measure => first | (simp [intOf]; done) | (simp [intOf]; omega)
              · have hl1 : ¬ (k : Int) < 56 := by omega
                have hb := Lib.hid h.blk
                have HF : Hid (codT t = (cOut t k).2) := Lib.hid (by obtain rfl : k = 56 := by omega
                                                                     unfold codT; rw [if_pos HE0.out])
                clear hlt hk
                have HX := Lib.hid h.ends
                clear h
                rw [← HF.out] at hb
                clear HF
                obtain ⟨ct, hct⟩ : ∃ ct, ct = codT t := ⟨_, rfl⟩
                rw [← hct] at hb
                have HC := Lib.hid hct
                clear hct
                generalize (cOut t k).1 = co
                go_wp2_with (first
                  | (refine wpList_load_row rfl _ _ rfl cb rfl 76 (tabV .u64 ct) (0, 0) (.array 256 34) hb.out Tryz.underlying76 rfl (size64 _) ?_)
                  | (refine wpList_store_row rfl _ _ _ rfl cb (tabV .u64 ct) rfl rfl 76 (tabV .u64 ct) hb.out (size64 _) rfl (tabV_one _ _) ?_; rw [setRow_self _ _ _ _ _ hb.out]))
                rw [← HC.out, HE0.out]
                refine bodyPost_ret_by (results_pairH rfl _ _ cb 76 _ (0, 0) (.array 256 34) rfl hb.out Tryz.underlying76 rfl (size64 _)) rfl ?_
                exact ⟨rfl, HX.out⟩
          · have b2 : ¬ (q : Int) = 72057594037927936 := by omega
            have b3 : (c : Int) = 1 := by omega
            have b4 : (q : Int) = 36028797018963968 := by omega
            clear hA hcn c0 c1 b1
            go_wp2_with fail
            clear hs
            go_loopw [8, 43] (fun v8 v43 wr => ∃ k : Nat, v8 = .int .u64 (cOut t k).1 ∧ v43 = .int .u8 k ∧ k ≤ 56 ∧ St noB w wr [blkT cb (tabV .u64 (cOut t k).2) 76, blkT lb T 74]) (fun _ v43 _ => 56 - (intOf v43).toNat)
            case atStart => exact ⟨0, rfl, rfl, by omega, h2⟩
            case round =>
              clear h2
              obtain ⟨k, rfl, rfl, hk, h⟩ := hrel
              by_cases hlt : k < 56
              · have hl1 : (k : Int) < 56 := by omega
                have hm : IntKind.u64.wrap (((cOut t k).1 : Int) * 2) = (((cOut t k).1 * 2 % 18446744073709551616 : Nat) : Int) := by rw [IntKind.wrap_u64]; omega
                have hk8 : IntKind.u8.wrap ((k : Int) + 1) = (k : Int) + 1 := by rw [IntKind.wrap_u8]; omega
                have HS : Hid (cOut t (k + 1) = cIn t k 256 ((cOut t k).1 * 2 % 18446744073709551616, (cOut t k).2)) := Lib.hid rfl
                obtain ⟨s, hs⟩ : ∃ s, s = ((cOut t k).1 * 2 % 18446744073709551616, (cOut t k).2) := ⟨_, rfl⟩
                have e1 : (cOut t k).1 * 2 % 18446744073709551616 = s.1 := by rw [hs]
                have e2 : (cOut t k).2 = s.2 := by rw [hs]
                rw [e1] at hm
                rw [e2] at h
                rw [← hs] at HS
                clear hs e1 e2
                generalize (cOut t k).1 = c0 at hm ⊢
                go_wp2_with fail
                clear hm
                go_loopw [8, 48] (fun v8 v48 wr => ∃ i : Nat, v8 = .int .u64 (cIn t k i s).1 ∧ v48 = .int .i64 i ∧ i ≤ 256 ∧ St noB w wr [blkT cb (tabV .u64 (cIn t k i s).2) 76, blkT lb T 74]) (fun _ v48 _ => 256 - (intOf v48).toNat)
                case atStart => exact ⟨0, rfl, rfl, by omega, h⟩
                case round =>
                  clear h
                  obtain ⟨i, rfl, rfl, hi, h⟩ := hrel
                  by_cases hli : i < 256
                  · have hl2 : (i : Int) < 256 := by omega
                    have k1 := cell_of_heap h.swap.blk i
                    rw [hT0 i hli] at k1
                    by_cases e : t i = k + 1
                    · have f0 := free_of_heap h.blk i
                      have k0 := cell_of_heap h.blk i
                      rw [tabV_get _ _ _ hli] at k0
                      have h3 := h.set i (.int .u64 ((cIn t k i s).1 : Nat))
                      rw [tabV_set _ _ _ _ hli] at h3
                      have E1 : cIn t k (i + 1) s = (((cIn t k i s).1 + 1) % 18446744073709551616, upd (cIn t k i s).2 i (cIn t k i s).1) := by rw [cIn, if_pos e]
                      have E2 : (cIn t k (i + 1) s).1 = ((cIn t k i s).1 + 1) % 18446744073709551616 := by rw [E1]
                      have E3 : (cIn t k (i + 1) s).2 = upd (cIn t k i s).2 i (cIn t k i s).1 := by rw [E1]
                      rw [← E3] at h3
                      have hw : IntKind.u64.wrap (((cIn t k i s).1 : Int) + 1) = ((cIn t k (i + 1) s).1 : Nat) := by rw [E2, IntKind.wrap_u64]; omega
                      clear h E1 E2 E3
                      generalize (cIn t k i s).1 = p at hw f0 h3 ⊢
                      generalize (cIn t k i s).2 i = p0 at k0
                      rw [e] at k1
                      clear e
                      go_wp2_with fail
                      go_roundw
                      case rel => first | exact ⟨i + 1, rfl, by go_num, by omega, h3⟩ | ((repeat apply Exists.intro); exact ⟨⟨i + 1, rfl, by go_num, by omega, h3⟩, rfl⟩)
                      case measure => first | (simp [intOf]; done) | (simp [intOf]; omega)
                    · have e2 : ¬ ((t i : Int) = (k : Int) + 1) := by omega
                      have E1 : cIn t k (i + 1) s = cIn t k i s := by rw [cIn, if_neg e]
                      rw [← E1] at h ⊢
                      clear e E1
                      generalize t i = x at k1 e2
                      go_wp2_with fail
                      go_roundw
                      case rel => first | exact ⟨i + 1, rfl, by go_num, by omega, h⟩ | ((repeat apply Exists.intro); exact ⟨⟨i + 1, rfl, by go_num, by omega, h⟩, rfl⟩)
                      case measure => first | (simp [intOf]; done) | (simp [intOf]; omega)
                  · obtain rfl : i = 256 := by omega
                    have hl2 : ¬ (256 : Int) < 256 := by omega
                    rw [← HS.out] at h ⊢
                    go_wp2_with fail
                    go_roundw
                    case rel => first | exact ⟨k + 1, rfl, by go_num, by omega, h⟩ | ((repeat apply Exists.intro); exact ⟨⟨k + 1, rfl, by go_num, by omega, h⟩, rfl⟩)
                    case measure => first | (simp [intOf]; done) | (simp [intOf]; omega)
              · have hl1 : ¬ (k : Int) < 56 := by omega
                have hb := Lib.hid h.blk
                have HF : Hid (codT t = (cOut t k).2) := Lib.hid (by obtain rfl : k = 56 := by omega
                                                                     unfold codT; rw [if_pos HE0.out])
                clear hlt hk
                have HX := Lib.hid h.ends
                clear h
                rw [← HF.out] at hb
                clear HF
                obtain ⟨ct, hct⟩ : ∃ ct, ct = codT t := ⟨_, rfl⟩
                rw [← hct] at hb
                have HC := Lib.hid hct
                clear hct
                generalize (cOut t k).1 = co
                go_wp2_with (first
                  | (refine wpList_load_row rfl _ _ rfl cb rfl 76 (tabV .u64 ct) (0, 0) (.array 256 34) hb.out Tryz.underlying76 rfl (size64 _) ?_)
                  | (refine wpList_store_row rfl _ _ _ rfl cb (tabV .u64 ct) rfl rfl 76 (tabV .u64 ct) hb.out (size64 _) rfl (tabV_one _ _) ?_; rw [setRow_self _ _ _ _ _ hb.out]))
                rw [← HC.out, HE0.out]
                refine bodyPost_ret_by (results_pairH rfl _ _ cb 76 _ (0, 0) (.array 256 34) rfl hb.out Tryz.underlying76 rfl (size64 _)) rfl ?_
                exact ⟨rfl, HX.out⟩
end Go.Proofs.YtjdglpngcdcneaaGreat

/- Layer 7: the slices of the trees' bytes, by their numbers, as one thing. -/
namespace Go.Proofs.YtjdglpngcdcneaaGreat
open Go.RowKit Go.WideShapes
set_option linter.unusedVariables false
set_option linter.unusedSimpArgs false
set_option linter.unusedSectionVars false
/-- one entry is another one -/
def updA {α : Type} (t : Nat → α) (i : Nat) (v : α) : Nat → α := fun j => if j = i then v else t j
theorem updA_self {α : Type} (t : Nat → α) (i : Nat) (v : α) : updA t i v i = v := by unfold updA; rw [if_pos rfl]
theorem updA_ne {α : Type} (t : Nat → α) {i j : Nat} (v : α) (h : j ≠ i) : updA t i v j = t j := by unfold updA; rw [if_neg h]
/-- the first N slices hold these bytes -/
def lsT (N : Nat) (vs : Nat → Value) (ls : Nat → List UInt8) : Thing where
  holds w fp := (∀ k, k < N → Own w 5 1 (vs k) (ls k).length (bytesV (ls k))) ∧ fp = fun b => ∃ k, k < N ∧ (vs k).ownBlock = some b
  keep h m hd := ⟨fun k hk => (h.1 k hk).keep m (fun b hb => hd b (by rw [h.2]; exact ⟨k, hk, hb⟩)), h.2⟩
  lt h hb := by
    rw [h.2] at hb
    obtain ⟨k, hk, e⟩ := hb
    exact (h.1 k hk).lt _ e
section
variable {S : Nat → Prop} {W w : World} {L : List Thing}
theorem St.lsNil (h : St S W w L) (vs : Nat → Value) (ls : Nat → List UInt8) : St S W w (lsT 0 vs ls :: L) :=
  h.add (Mut.refl _ _) ⟨_, ⟨fun k hk => by omega, rfl⟩, fun k hk => by obtain ⟨j, hj, _⟩ := hk; omega⟩
theorem St.lsGet {N : Nat} {vs : Nat → Value} {ls : Nat → List UInt8} (h : St S W w (lsT N vs ls :: L)) (k : Nat) (hk : k < N) : Own w 5 1 (vs k) (ls k).length (bytesV (ls k)) := by
  obtain ⟨fp, h1, _⟩ := h.head; exact h1 k hk
theorem St.lsAdd {N : Nat} {vs : Nat → Value} {ls : Nat → List UInt8} {v : Value} {l : List UInt8} (h : St S W w (ownT 5 1 v l.length (bytesV l) :: lsT N vs ls :: L)) :
    St S W w (lsT (N + 1) (updA vs N v) (updA ls N l) :: L) := by
  obtain ⟨hm, all, fp, rest, ⟨o1, rfl⟩, ⟨fp2, rest2, ⟨o2, rfl⟩, g2, g3, g4, g5⟩, h3, h4, h5⟩ := h
  refine ⟨hm, all, (fun b => ∃ k, k < N + 1 ∧ (updA vs N v k).ownBlock = some b), rest2, ⟨fun k hk => ?_, rfl⟩, g2, ?_, fun k => ?_, ?_⟩
  · by_cases e : k = N
    · subst e; rw [updA_self, updA_self]; exact o1
    · rw [updA_ne _ _ e, updA_ne _ _ e]; exact o2 k (by omega)
  · rintro b ⟨k, hk, hb⟩ hr
    by_cases e : k = N
    · subst e; rw [updA_self] at hb; exact h3 b hb ((g4 b).2 (.inr hr))
    · rw [updA_ne _ _ e] at hb; exact g3 b ⟨k, by omega, hb⟩ hr
  · rw [h4, g4]
    constructor
    · rintro (h | ⟨j, hj, hb⟩ | h)
      · exact .inl ⟨N, by omega, by rw [updA_self]; exact h⟩
      · exact .inl ⟨j, by omega, by rw [updA_ne _ _ (by omega)]; exact hb⟩
      · exact .inr h
    · rintro (⟨j, hj, hb⟩ | h)
      · by_cases e : j = N
        · subst e; rw [updA_self] at hb; exact .inl hb
        · rw [updA_ne _ _ e] at hb; exact .inr (.inl ⟨j, by omega, hb⟩)
      · exact .inr (.inr h)
  · rintro b ⟨k, hk, hb⟩
    by_cases e : k = N
    · subst e; rw [updA_self] at hb; exact h5 b hb
    · rw [updA_ne _ _ e] at hb; exact g5 b ⟨k, by omega, hb⟩
theorem St.leaf {g : Nat} {x : UInt8} (h : St S W w (blkT g #[.int .u8 x.toNat] 5 :: L)) : St S W w (ownT 5 1 (.slice (some ⟨g, 0, none⟩) 1 1) 1 (bytesV [x]) :: L) := by
  refine h.tell (fun fp hf => ⟨⟨rfl, .inr ⟨g, 1, _, rfl, Nat.zero_le _, hf.1, ?_⟩⟩, ?_⟩)
  · exact ⟨by omega, by decide, rfl, by rfl⟩
  · rw [hf.2]
    funext k
    show (k = g) = (some g = some k)
    simp only [Option.some.injEq, eq_comm]
end
end Go.Proofs.YtjdglpngcdcneaaGreat

/- Layer 7: what huff.Lengths does, plain. -/
namespace Go.Proofs.YtjdglpngcdcneaaGreat
open Go.RowKit
set_option linter.unusedVariables false
set_option linter.unusedSimpArgs false
set_option linter.unusedSectionVars false
structure HS where
  l : List WN
  n : Nat
  ls : Nat → List UInt8
  tab : Nat → Nat
def incs (t : Nat → Nat) : List UInt8 → Nat → Nat
  | [] => t
  | x :: r => incs (upd t x.toNat ((t x.toNat + 1) % 256)) r
theorem incs_lt {t : Nat → Nat} (h : ∀ i, t i < 256) : ∀ (r : List UInt8), ∀ i, incs t r i < 256 := by
  intro r
  induction r generalizing t with
  | nil => exact h
  | cons x r ih =>
    refine ih (fun i => ?_)
    unfold upd
    split
    · exact Nat.mod_lt _ (by omega)
    · exact h i
theorem incs_snoc (t : Nat → Nat) (r : List UInt8) (x : UInt8) : incs t (r ++ [x]) = upd (incs t r) x.toNat ((incs t r x.toNat + 1) % 256) := by
  induction r generalizing t with
  | nil => rfl
  | cons y r ih => exact ih _
def leafS (f : Nat → Nat) : Nat → HS
  | 0 => ⟨[], 0, fun _ => [], fun _ => 0⟩
  | i + 1 => if 0 < f i then ⟨(leafS f i).l ++ [(f i, (leafS f i).n)], (leafS f i).n + 1, updA (leafS f i).ls (leafS f i).n [UInt8.ofNat i], fun _ => 0⟩ else leafS f i
def sumW (a b : Nat) : Nat := if a + b < 18446744073709551616 then a + b else 18446744073709551615
def popL (l : List WN) : List WN := (hpop l).take (l.length - 1)
def bsOf (s : HS) : List UInt8 := s.ls (hget s.l 0).2 ++ s.ls (hget (popL s.l) 0).2
def roundS (s : HS) : HS := ⟨hpush (popL (popL s.l)) (sumW (hget s.l 0).1 (hget (popL s.l) 0).1, s.n), s.n + 1, updA s.ls s.n (bsOf s), incs s.tab (bsOf s)⟩
def roundsS : Nat → HS → HS
  | 0, s => s
  | k + 1, s => if s.l.length ≤ 1 then s else roundsS k (roundS s)
/-- the heap that the rounds begin with -/
def heapS (s : HS) : HS := ⟨hinit (s.n / 2) s.l, s.n, s.ls, fun _ => 0⟩
def lenS (s : HS) : Nat → Nat := if s.l.length = 1 then upd (fun _ => 0) ((s.ls 0).head?.getD 0).toNat 1 else (roundsS (heapS s).l.length (heapS s)).tab
def lenT (f : Nat → Nat) : Nat → Nat := lenS (leafS f 256)
def totS (ls : Nat → List UInt8) (l : List WN) : Nat := (l.map fun x => (ls x.2).length).sum
structure HOK (s : HS) : Prop where
  num : ∀ x ∈ s.l, x.2 < s.n
  wt : ∀ x ∈ s.l, x.1 < 18446744073709551616
  pos : ∀ x ∈ s.l, 0 < (s.ls x.2).length
  tot : totS s.ls s.l ≤ 256
  few : s.n + s.l.length ≤ 512
  tab : ∀ i, s.tab i < 256
theorem tot_perm {ls : Nat → List UInt8} {l m : List WN} (h : l.Perm m) : totS ls l = totS ls m := (h.map _).sum_nat
theorem tot_append (ls : Nat → List UInt8) (l m : List WN) : totS ls (l ++ m) = totS ls l + totS ls m := by unfold totS; simp
theorem tot_congr {ls ks : Nat → List UInt8} {l : List WN} (h : ∀ x ∈ l, ls x.2 = ks x.2) : totS ls l = totS ks l := by
  unfold totS
  rw [List.map_congr_left (fun x hx => by rw [h x hx])]
theorem tot_mem {ls : Nat → List UInt8} : ∀ {l : List WN} {x : WN}, x ∈ l → (ls x.2).length ≤ totS ls l
  | y :: l, x, h => by
    have e : totS ls (y :: l) = (ls y.2).length + totS ls l := by unfold totS; rw [List.map_cons, List.sum_cons]
    rw [e]
    rcases List.mem_cons.1 h with rfl | h
    · omega
    · have := tot_mem (ls := ls) h; omega
theorem popL_perm (l : List WN) (h : 0 < l.length) : (popL l ++ [hget l 0]).Perm l := by
  have h1 : popL l ++ [hget l 0] = hpop l := by
    have hl := hpop_len l
    have e : hpop l = (hpop l).take (l.length - 1) ++ (hpop l).drop (l.length - 1) := (List.take_append_drop _ _).symm
    have e2 : (hpop l).drop (l.length - 1) = [hget (hpop l) (l.length - 1)] := by
      rw [hget_lt _ _ (by omega), List.drop_eq_getElem_cons (by omega), List.drop_of_length_le (by omega)]
    rw [← hpop_last l h]
    unfold popL
    rw [← e2]; exact e.symm
  rw [h1]; exact hpop_perm l h
theorem popL_len (l : List WN) : (popL l).length = l.length - 1 := by unfold popL; rw [List.length_take, hpop_len]; omega
theorem leafS_ok (f : Nat → Nat) (hf : ∀ i, f i < 18446744073709551616) : ∀ i, (leafS f i).n = (leafS f i).l.length ∧ (leafS f i).n ≤ i ∧ (∀ x ∈ (leafS f i).l, x.2 < (leafS f i).n ∧ x.1 < 18446744073709551616 ∧ ((leafS f i).ls x.2).length = 1) ∧ (leafS f i).tab = fun _ => 0
  | 0 => ⟨rfl, Nat.le_refl _, fun x hx => (List.not_mem_nil hx).elim, rfl⟩
  | i + 1 => by
    obtain ⟨h1, h2, h3, h4⟩ := leafS_ok f hf i
    unfold leafS
    split
    · refine ⟨by simp [h1], by show (leafS f i).n + 1 ≤ i + 1; omega, fun x hx => ?_, rfl⟩
      rcases List.mem_append.1 hx with hx | hx
      · obtain ⟨a, b, c⟩ := h3 x hx
        refine ⟨by show x.2 < (leafS f i).n + 1; omega, b, ?_⟩
        show (updA (leafS f i).ls _ _ x.2).length = 1
        rw [updA_ne _ _ (by omega)]; exact c
      · obtain rfl := List.mem_singleton.1 hx
        refine ⟨by show (leafS f i).n < (leafS f i).n + 1; omega, hf i, ?_⟩
        show (updA (leafS f i).ls _ _ (leafS f i).n).length = 1
        rw [updA_self]; rfl
    · exact ⟨h1, by omega, h3, h4⟩
theorem tot_ones {ls : Nat → List UInt8} : ∀ {l : List WN}, (∀ x ∈ l, (ls x.2).length = 1) → totS ls l = l.length
  | [], _ => rfl
  | y :: l, h => by
    have := tot_ones (ls := ls) (l := l) (fun x hx => h x (List.mem_cons_of_mem _ hx))
    unfold totS at *
    rw [List.map_cons, List.sum_cons, this, h y (List.mem_cons_self ..), List.length_cons]; omega
theorem start_ok (f : Nat → Nat) (hf : ∀ i, f i < 18446744073709551616) (i : Nat) (hi : i ≤ 256) : HOK (heapS (leafS f i)) := by
  obtain ⟨h1, h2, h3, h4⟩ := leafS_ok f hf i
  have hp := hinit_perm ((leafS f i).n / 2) (leafS f i).l
  refine ⟨fun x hx => (h3 x (hp.mem_iff.1 hx)).1, fun x hx => (h3 x (hp.mem_iff.1 hx)).2.1, fun x hx => ?_, ?_, ?_, fun i => by show 0 < 256; omega⟩
  · show 0 < ((leafS f i).ls x.2).length
    rw [(h3 x (hp.mem_iff.1 hx)).2.2]; omega
  · show totS (leafS f i).ls (hinit _ _) ≤ _
    rw [tot_perm hp, tot_ones (fun x hx => (h3 x hx).2.2)]; omega
  · show (leafS f i).n + (hinit _ _).length ≤ _
    rw [hinit_len]; omega
theorem two_perm (l : List WN) (h : 2 ≤ l.length) : ((popL (popL l) ++ [hget (popL l) 0]) ++ [hget l 0]).Perm l :=
  ((popL_perm (popL l) (by rw [popL_len]; omega)).append_right _).trans (popL_perm l (by omega))
theorem sumW_lt (a b : Nat) : sumW a b < 18446744073709551616 := by unfold sumW; split <;> omega
theorem round_ok (s : HS) (h : HOK s) (h2 : 2 ≤ s.l.length) : HOK (roundS s) := by
  have hp := two_perm s.l h2
  have hq := hpush_perm (popL (popL s.l)) (sumW (hget s.l 0).1 (hget (popL s.l) 0).1, s.n)
  have m0 : hget s.l 0 ∈ s.l := hp.mem_iff.1 (by simp)
  have m1 : hget (popL s.l) 0 ∈ s.l := hp.mem_iff.1 (by simp)
  have mm : ∀ x ∈ popL (popL s.l), x ∈ s.l := fun x hx => hp.mem_iff.1 (by simp [hx])
  have ht := tot_perm (ls := s.ls) hp
  rw [tot_append, tot_append] at ht
  have t0 : totS s.ls [hget s.l 0] = (s.ls (hget s.l 0).2).length := by simp [totS]
  have t1 : totS s.ls [hget (popL s.l) 0] = (s.ls (hget (popL s.l) 0).2).length := by simp [totS]
  have hcase : ∀ x ∈ (roundS s).l, x ∈ popL (popL s.l) ∨ x = (sumW (hget s.l 0).1 (hget (popL s.l) 0).1, s.n) := fun x hx => by
    rcases List.mem_append.1 (hq.mem_iff.1 hx) with h | h
    · exact .inl h
    · exact .inr (List.mem_singleton.1 h)
  refine ⟨fun x hx => ?_, fun x hx => ?_, fun x hx => ?_, ?_, ?_, incs_lt h.tab _⟩
  · show x.2 < s.n + 1
    rcases hcase x hx with h1 | rfl
    · have := h.num x (mm x h1); omega
    · show s.n < s.n + 1; omega
  · rcases hcase x hx with h1 | rfl
    · exact h.wt x (mm x h1)
    · exact sumW_lt _ _
  · show 0 < (updA s.ls s.n (bsOf s) x.2).length
    rcases hcase x hx with h1 | rfl
    · rw [updA_ne _ _ (by have := h.num x (mm x h1); omega)]; exact h.pos x (mm x h1)
    · rw [updA_self]; unfold bsOf; rw [List.length_append]; have := h.pos _ m0; omega
  · show totS (updA s.ls s.n (bsOf s)) (hpush _ _) ≤ 256
    rw [tot_perm hq, tot_append, tot_congr (ls := updA s.ls s.n (bsOf s)) (ks := s.ls) (l := popL (popL s.l)) (fun x hx => updA_ne _ _ (by have := h.num x (mm x hx); omega))]
    have e : totS (updA s.ls s.n (bsOf s)) [(sumW (hget s.l 0).1 (hget (popL s.l) 0).1, s.n)] = (bsOf s).length := by simp [totS, updA_self]
    have := h.tot
    rw [e]; unfold bsOf; rw [List.length_append]; omega
  · show s.n + 1 + (hpush _ _).length ≤ 512
    rw [hpush_len, popL_len, popL_len]; have := h.few; omega
theorem round_len (s : HS) (h2 : 2 ≤ s.l.length) : (roundS s).l.length = s.l.length - 1 := by
  show (hpush _ _).length = _
  rw [hpush_len, popL_len, popL_len]; omega
theorem rounds_step (s : HS) (h2 : 2 ≤ s.l.length) : roundsS s.l.length s = roundsS (roundS s).l.length (roundS s) := by
  rw [round_len s h2]
  obtain ⟨k, hk⟩ : ∃ k, s.l.length = k + 1 := ⟨s.l.length - 1, by omega⟩
  rw [hk]
  show (if s.l.length ≤ 1 then s else roundsS k (roundS s)) = _
  rw [if_neg (by omega)]; rfl
theorem rounds_end (s : HS) (h2 : s.l.length ≤ 1) : roundsS s.l.length s = s := by
  cases hk : s.l.length with
  | zero => rfl
  | succ k => show (if s.l.length ≤ 1 then s else roundsS k (roundS s)) = s; rw [if_pos h2]
/-- the slices of other numbers don't matter -/
theorem hpT_congr (b : Nat) (A : Option Addr) (n c : Nat) {vs us : Nat → Value} {l : List WN} (M : List Thing) (h : ∀ x ∈ l, vs x.2 = us x.2) : hpT b A n c vs l M = hpT b A n c us l M := by
  unfold hpT
  have e : l.flatMap (trC vs) = l.flatMap (trC us) := by
    rw [List.flatMap_def, List.flatMap_def, List.map_congr_left (fun x hx => show trC vs x = trC us x by unfold trC; rw [h x hx])]
  rw [e]
end Go.Proofs.YtjdglpngcdcneaaGreat

/- Layer 7: huff.Lengths. -/
namespace Go.Proofs.YtjdglpngcdcneaaGreat
open Go.RowKit
set_option linter.unusedVariables false
set_option linter.unusedSimpArgs false
set_option linter.unusedSectionVars false
theorem leaf_vs {vs : Nat → Value} (hv : ∀ k, ∃ A n c, vs k = .slice A n c) (n g : Nat) : ∀ k, ∃ A n' c, updA vs n (.slice (some ⟨g, 0, none⟩) 1 1) k = .slice A n' c := fun k => by
  by_cases e : k = n
  · subst e; rw [updA_self]; exact ⟨_, _, _, rfl⟩
  · rw [updA_ne _ _ e]; exact hv k
theorem new_flat {vs : Nat → Value} {l : List WN} {n : Nat} {v : Value} {x : Nat} (h : ∀ y ∈ l, y.2 < n) : (l ++ [(x, n)]).flatMap (trC (updA vs n v)) = l.flatMap (trC vs) ++ [.int .u64 (x : Nat), .int .i64 (n : Nat), v] := by
  have e : l.flatMap (trC (updA vs n v)) = l.flatMap (trC vs) := by
    rw [List.flatMap_def, List.flatMap_def, List.map_congr_left (fun y hy => show trC (updA vs n v) y = trC vs y by unfold trC; rw [updA_ne _ _ (by have := h y hy; omega)])]
  rw [List.flatMap_append, e, List.flatMap_singleton]
  unfold trC
  rw [updA_self]
theorem leaf_flat {vs : Nat → Value} {l : List WN} {n g : Nat} {x : Nat} (h : ∀ y ∈ l, y.2 < n) : (l ++ [(x, n)]).flatMap (trC (updA vs n (.slice (some ⟨g, 0, none⟩) 1 1))) = l.flatMap (trC vs) ++ [.int .u64 (x : Nat), .int .i64 (n : Nat), .slice (some ⟨g, 0, none⟩) 1 1] := new_flat h
theorem name_world {W : World} {P : World → Prop} (h : P W) : ∃ w5, W = w5 ∧ P w5 := ⟨W, rfl, h⟩
set_option maxRecDepth 20000 in
set_option maxHeartbeats 8000000 in
theorem lengths_any (f : Nat → Nat) (hf : ∀ i, f i < 18446744073709551616) (w : World) :
    Calls Tryz.prog 36 #[.agg (tabV .u64 f)] w fun e w' => e = .returned (.agg (tabV .u8 (lenT f))) ∧ Ext w w' := by
  obtain ⟨T, hT⟩ : ∃ T, T = tabV .u64 f := ⟨_, rfl⟩
  have hT0 : ∀ i, i < 256 → T[i]? = some (.int .u64 (f i)) := fun i hi => by rw [hT]; exact tabV_get _ _ i hi
  have hTs : T.size = 256 := by rw [hT, tabV_size]
  rw [← hT]
  have HT := Lib.hid hT
  clear hT
  have hz := zero8
  have h1 := ((((St.start noB w).alloc T 76).alloc (tabV .u8 (fun _ => 0)) 74).alloc #[] 109).alloc #[.slice (some ⟨w.heap.size + 1 + 1, 0, none⟩) 0 0] 107
  go_enter Tryz.func36, Tryz.ntmps36
  rw [size_alloc', size_alloc', size_alloc'] at h1
  have hb := (h1.pull 3).blk
  have hs8 : (Tryz.prog.info? 76).map (·.size) = some T.size := by rw [hTs]; kernel_rfl
  go_wp2_with (refine wpList_load_row rfl _ _ rfl w.heap.size rfl 76 T (0, 0) (.array 256 34) hb Tryz.underlying76 rfl hs8 ?_)
  clear hb hs8 hz
  generalize (((w.alloc (.cells T 76)).alloc (.cells (tabV .u8 (fun _ => 0)) 74)).alloc (.cells #[] 109)).alloc (.cells #[.slice (some ⟨w.heap.size + 1 + 1, 0, none⟩) 0 0] 107) = w1 at h1 ⊢
  generalize w.heap.size + 1 + 1 + 1 = b at h1 ⊢
  generalize w.heap.size + 1 + 1 = r0 at h1 ⊢
  generalize w.heap.size + 1 = tb at h1 ⊢
  generalize w.heap.size = lb at h1 ⊢
  have h2 := h1.swap
  have h3 := h2.tell (t' := ownT 109 3 (.slice (some ⟨r0, 0, none⟩) 0 0) 0 []) (fun fp hf => ⟨⟨rfl, .inr ⟨r0, 0, #[], rfl, Nat.zero_le _, hf.1, Nat.le_refl _, by decide, rfl, rfl⟩⟩, by rw [hf.2]; funext k; show (k = r0) = (some r0 = some k); simp only [Option.some.injEq, eq_comm]⟩)
  have h4 : St noB w w1 (hpT b (some ⟨r0, 0, none⟩) (leafS f 0).n 0 (fun _ => .slice none 0 0) (leafS f 0).l (lsT (leafS f 0).n (fun _ => .slice none 0 0) (leafS f 0).ls :: [blkT tb (tabV .u8 (fun _ => 0)) 74, blkT lb T 76])) :=
    ((h3.swap.lsNil (fun _ => .slice none 0 0) (fun _ => [])).pull 2).pull 2
  clear h1 h2 h3
  go_loopw [15] (fun v15 wr => ∃ (i : Nat) (A : Option Addr) (c : Nat) (vs : Nat → Value), v15 = .int .i64 i ∧ i ≤ 256 ∧ (∀ k, ∃ A n c, vs k = .slice A n c) ∧ St noB w wr (hpT b A (leafS f i).n c vs (leafS f i).l (lsT (leafS f i).n vs (leafS f i).ls :: [blkT tb (tabV .u8 (fun _ => 0)) 74, blkT lb T 76]))) (fun v15 _ => 256 - (intOf v15).toNat)
  case atStart => exact ⟨0, _, _, _, rfl, by omega, fun k => ⟨_, _, _, rfl⟩, h4⟩
  case round =>
    clear h4
    obtain ⟨i, A, c, vs, rfl, hi, hv, h⟩ := hrel
    obtain ⟨hn1, hn2, hn3, _⟩ := leafS_ok f hf i
    by_cases hlt : i < 256
    · have hl1 : (i : Int) < 256 := by omega
      have hT1 := fun w => index64 T i _ hlt (hT0 i hlt) w
      by_cases hz : 0 < f i
      · have hz2 : (0 : Int) < (f i : Int) := by omega
        have E : leafS f (i + 1) = ⟨(leafS f i).l ++ [(f i, (leafS f i).n)], (leafS f i).n + 1, updA (leafS f i).ls (leafS f i).n [UInt8.ofNat i], fun _ => 0⟩ := by rw [leafS, if_pos hz]
        have HE := Lib.hid E
        have k0 := hp_cell h
        have ht8 : (UInt8.ofNat i).toNat = i := by simp; omega
        have hw8 : IntKind.u8.wrap (i : Int) = (i : Int) := by rw [IntKind.wrap_u8]; omega
        have hlf := h.alloc #[.int .u8 ((UInt8.ofNat i).toNat : Nat)] 5
        have hd := ((hlf.leaf.pull 3).swap.lsAdd).pull 2
        rw [ht8] at hd
        have hv2 := Lib.hid (leaf_vs hv (leafS f i).n wr.heap.size)
        have hfl := Lib.hid (leaf_flat (vs := vs) (l := (leafS f i).l) (n := (leafS f i).n) (g := wr.heap.size) (x := f i) (fun x hx => (hn3 x hx).1))
        clear h hlf E hn3 ht8 hn1 hz
        generalize (leafS f i).l = l at hd HE hfl
        generalize (leafS f i).ls = ls at hd HE
        generalize (leafS f i).n = n at hd HE hfl hn2 hv2 k0
        generalize f i = x at hT1 hz2 HE hfl
        go_wp2_with (at_builtin; refine wpList_push rfl _ _ _ rfl 109 (.agg #[.int .u64 0, .int .i64 0, .slice none 0 0]) 3 40 Tryz.underlying107 tree_info rfl (by decide) hd rfl (by rw [size_alloc']; rfl) rfl (by intro q hq; simp at hq; rcases hq with rfl | rfl | rfl <;> rfl) (by unfold maxLen; omega) (by omega) ?_; intro A' c' w3 h3; have hp5 := cell_of_heap (h3.pull 2).blk 0; have hf5 := free_of_heap (h3.pull 2).blk 0; change w3.cell? _ = some (Value.slice A n c) at hp5; have h4 := Lib.hid ((h3.pull 2).set 0 (.slice A' (n + 1) c')))
        exact ⟨⟨i + 1, A', c', _, by go_num, by omega, hv2.out, by rw [HE.out]; unfold hpT; rw [hfl.out]; exact h4.out⟩, by simp [intOf]; omega⟩
      · have hz2 : ¬ (0 : Int) < (f i : Int) := by omega
        have E : leafS f (i + 1) = leafS f i := by rw [leafS, if_neg hz]
        rw [← E] at h
        generalize f i = x at hT1 hz2
        clear hn1 hn2 hn3 E hz
        go_wp2_with fail
        go_roundw
        case rel => first | exact ⟨i + 1, A, c, vs, by go_num, by omega, hv, h⟩ | ((repeat apply Exists.intro); exact ⟨⟨i + 1, A, c, vs, by go_num, by omega, hv, h⟩, rfl⟩)
        case measure => first | (simp [intOf]; done) | (simp [intOf]; omega)
    · have hl1 : ¬ (i : Int) < 256 := by omega
      have k0 := hp_cell h
      have HLD : Hid (lenT f = lenS (leafS f i)) := Lib.hid (by rw [show i = 256 by omega]; rfl)
      have HOK0 := Lib.hid (start_ok f hf i hi)
      generalize leafS f i = s1 at *
      by_cases h1 : s1.l.length = 1
      · have hn : s1.n = 1 := by omega
        have HLT : Hid (lenT f = upd (fun _ => 0) ((s1.ls 0).head?.getD 0).toNat 1) := Lib.hid (by rw [HLD.out]; unfold lenS; rw [if_pos h1])
        rw [hn] at h hn3 k0
        obtain ⟨g, rfl, hc⟩ := tr_cells h.swap.own h1 (by omega)
        have hq := (hc 0 (by omega)).2.2
        have hm : hget s1.l 0 ∈ s1.l := by rw [hget_lt _ _ (by omega)]; exact List.getElem_mem _
        obtain ⟨q1, _, q3⟩ := hn3 _ hm
        have q0 : (hget s1.l 0).2 = 0 := by omega
        rw [q0] at hq q3
        have ho := (h.pull 2).lsGet 0 (by omega)
        obtain ⟨y, hy⟩ : ∃ y, s1.ls 0 = [y] := List.length_eq_one_iff.1 q3
        rw [hy] at ho HLT
        obtain ⟨g0, c0, e0, _⟩ := ho.slice (by show 0 < 1; omega)
        have hy0 : wr.cell? ⟨g0, 0, none⟩ = some (.int .u8 y.toNat) := by rw [e0] at ho; exact Own.cell ho 0 (by show 0 < 1; omega)
        rw [e0] at hq
        change wr.cell? ⟨g, 2, none⟩ = some (Value.slice (some ⟨g0, 0, none⟩) 1 c0) at hq
        have hy8 := y.toNat_lt
        have h5 := h.pull 3
        have k3 := cell_of_heap h5.blk y.toNat
        rw [tabV_get _ _ _ (by omega)] at k3
        have f3 := free_of_heap h5.blk y.toNat
        have h6 := h5.set y.toNat (.int .u8 1)
        rw [show ((tabV .u8 (fun _ => 0)).setIfInBounds y.toNat (.int .u8 1)) = tabV .u8 (upd (fun _ => 0) y.toNat 1) from tabV_set _ _ _ 1 (by omega)] at h6
        have hb := Lib.hid h6.blk
        have HX := Lib.hid h6.ends
        change Hid (lenT f = upd (fun _ => 0) y.toNat 1) at HLT
        clear h h5 h6 ho e0 hc hn1 hn2 hn3 q1 q3 hm hy q0 hv
        generalize y.toNat = y at *
        obtain ⟨ct, hct⟩ : ∃ ct, ct = upd (fun _ => 0) y 1 := ⟨_, rfl⟩
        rw [← hct] at hb HLT
        clear hct
        go_wp2_with (first
          | (with_reducible refine (show wpList _ _ _ _ _ (World.setCell _ _ _) from ?_); refine wpList_load_row rfl _ _ rfl tb rfl 74 (tabV .u8 ct) (0, 0) (.array 256 5) hb.out Tryz.underlying74 rfl (size8 _) ?_)
          | (with_reducible refine (show wpList _ _ _ _ _ (World.setCell _ _ _) from ?_); refine wpList_store_row rfl _ _ _ rfl tb (tabV .u8 ct) rfl rfl 74 (tabV .u8 ct) hb.out (size8 _) rfl (tabV_one _ _) ?_; rw [setRow_self _ _ _ _ _ hb.out]))
        refine bodyPost_ret_by (v := .agg (tabV .u8 ct)) (results_cell_row rfl _ _ tb 74 (tabV .u8 ct) (0, 0) (.array 256 5) rfl hb.out Tryz.underlying74 rfl (size8 _)) rfl ?_
        rw [HLT.out]
        exact ⟨rfl, HX.out⟩
      · have hl2 : ¬ (s1.n : Int) = 1 := by omega
        have HL : Hid (lenT f = (roundsS (heapS s1).l.length (heapS s1)).tab) := Lib.hid (by rw [HLD.out]; unfold lenS; rw [if_neg h1])
        have HI := Lib.hid (init_st (fun k => vs_one hv k) h hn1.symm (by omega))
        clear h hn3 HLD
        have HN : Hid (s1.n = (heapS s1).l.length ∧ (heapS s1).n = s1.n ∧ (heapS s1).ls = s1.ls ∧ (heapS s1).l = hinit (s1.n / 2) s1.l) := Lib.hid ⟨by show _ = (hinit _ _).length; rw [hinit_len]; exact hn1, rfl, rfl, rfl⟩
        go_wp2_with fail
        refine (HI.out).mono ?_
        rintro _ w2 ⟨rfl, h2⟩
        have h3 : St noB w w2 (hpT b A (heapS s1).l.length c vs (heapS s1).l (lsT (heapS s1).n vs (heapS s1).ls :: [blkT tb (tabV .u8 (heapS s1).tab) 74, blkT lb T 76])) := by
          have e := HN.out.1; rw [← e]; exact h2
        have hN : (heapS s1).n = (heapS s1).l.length := by rw [← HN.out.1]; rfl
        clear h2 HI HN hl2 k0 h1 hn1 hn2
        generalize heapS s1 = s0 at *
        obtain ⟨R, hR⟩ : ∃ R, roundsS s0.l.length s0 = R := ⟨_, rfl⟩
        rw [hR] at HL
        have HR := Lib.hid hR
        clear hR
        have k0 := hp_cell h3
        go_wp2_with fail
        clear k0
        go_loopw [6] (fun v6 wr => ∃ (s : HS) (A : Option Addr) (c : Nat) (vs : Nat → Value), v6 = .int .i64 s.n ∧ Hid (HOK s) ∧ Hid (roundsS s.l.length s = R) ∧ (∀ k, ∃ A n c, vs k = .slice A n c) ∧ St noB w wr (hpT b A s.l.length c vs s.l (lsT s.n vs s.ls :: [blkT tb (tabV .u8 s.tab) 74, blkT lb T 76]))) (fun v6 _ => 512 - (intOf v6).toNat)
        case atStart => exact ⟨s0, A, c, vs, by rw [hN], HOK0, HR, hv, h3⟩
        case round =>
          clear h3 HOK0 HR hN
          obtain ⟨s, A, c, vs, rfl, HO, HR, hv, h⟩ := hrel
          have k0 := hp_cell h
          have hfew := HO.out.few
          have HS := several_any b A s.l.length c wr k0
          by_cases h2 : 2 ≤ s.l.length
          · rw [show decide (1 < s.l.length) = true by simp; omega] at HS
            have HS := Lib.hid HS
            go_wp2_with fail
            obtain ⟨m, hm⟩ : ∃ m, s.l.length = m + 2 := ⟨s.l.length - 2, by omega⟩
            have hl2 : (popL s.l).length = m + 1 := by rw [popL_len, hm]; rfl
            have hl3 : (popL (popL s.l)).length = m := by rw [popL_len, hl2]; rfl
            have e1 : (hpop s.l).take (m + 1) = popL s.l := by unfold popL; rw [hm]; rfl
            have e2 : (hpop (popL s.l)).take m = popL (popL s.l) := by show _ = (hpop (popL s.l)).take _; rw [hl2]; rfl
            have HR1 := Lib.hid (rounds_step s h2)
            have HO1 := Lib.hid (round_ok s HO.out h2)
            have hmem := two_perm s.l h2
            have m0 : hget s.l 0 ∈ s.l := hmem.mem_iff.1 (by simp)
            have m1 : hget (popL s.l) 0 ∈ s.l := hmem.mem_iff.1 (by simp)
            have mm : ∀ x ∈ popL (popL s.l), x.2 < s.n := fun x hx => HO.out.num x (hmem.mem_iff.1 (by simp [hx]))
            have ht := tot_perm (ls := s.ls) hmem
            rw [tot_append, tot_append] at ht
            have t0 : totS s.ls [hget s.l 0] = (s.ls (hget s.l 0).2).length := by simp [totS]
            have t1 : totS s.ls [hget (popL s.l) 0] = (s.ls (hget (popL s.l) 0).2).length := by simp [totS]
            have htot := HO.out.tot
            have ht3 : (s.ls (hget s.l 0).2).length + (s.ls (hget (popL s.l) 0).2).length ≤ 256 := by omega
            have p0 := HO.out.pos _ m0
            have p1 := HO.out.pos _ m1
            have w0 := HO.out.wt _ m0
            have w1 := HO.out.wt _ m1
            have n0 := HO.out.num _ m0
            have n1 := HO.out.num _ m1
            have E : Hid (roundS s = ⟨hpush (popL (popL s.l)) (sumW (hget s.l 0).1 (hget (popL s.l) 0).1, s.n), s.n + 1, updA s.ls s.n (s.ls (hget s.l 0).2 ++ s.ls (hget (popL s.l) 0).2), incs s.tab (s.ls (hget s.l 0).2 ++ s.ls (hget (popL s.l) 0).2)⟩) := Lib.hid rfl
            have htab := HO.out.tab
            rw [hm] at h
            have HA := Lib.hid (least_st hv h hm (by omega))
            rw [e1] at HA
            have HB := Lib.hid (fun w2 (h : St noB w w2 (hpT b A (m + 1) c vs (popL s.l) (lsT s.n vs s.ls :: [blkT tb (tabV .u8 s.tab) 74, blkT lb T 76]))) => least_st hv h hl2 (by omega))
            rw [e2] at HB
            obtain ⟨g0, cap0, ea, _, hca, _⟩ := ((h.pull 2).lsGet _ n0).slice p0
            obtain ⟨g1, cap1, eb, _, hcb, _⟩ := ((h.pull 2).lsGet _ n1).slice p1
            clear hmem m0 m1 ht t0 t1 htot e1 e2 HO h
            generalize popL (popL s.l) = l2 at *
            generalize hget (popL s.l) 0 = x1 at *
            generalize hget s.l 0 = x0 at *
            generalize popL s.l = l1 at *
            generalize roundS s = s' at *
            generalize s.ls = ls at *
            generalize s.tab = ct at *
            generalize hsn : s.n = n at *
            have HSN := Lib.hid hsn
            clear hsn
            obtain ⟨wt0, no0⟩ := x0
            obtain ⟨wt1, no1⟩ := x1
            simp only at *
            unfold trC at HA HB
            simp only at HA HB
            rw [ea] at HA
            rw [eb] at HB
            obtain ⟨b0, hb0⟩ : ∃ b0, ls no0 = b0 := ⟨_, rfl⟩
            obtain ⟨b1, hb1⟩ : ∃ b1, ls no1 = b1 := ⟨_, rfl⟩
            rw [hb0] at HA ht3 p0 E
            rw [hb1] at HB ht3 p1 E
            have RB0 : Hid (∀ w' L, St noB w w' (hpT b A m c vs l2 (lsT n vs ls :: L)) → RB w' (some ⟨g0, 0, none⟩) b0) := Lib.hid (fun w' L h => by
              have := (h.pull 2).lsGet _ n0
              rw [ea, hb0] at this
              exact Own.rb this rfl)
            have RB1 : Hid (∀ w' L, St noB w w' (hpT b A m c vs l2 (lsT n vs ls :: L)) → RB w' (some ⟨g1, 0, none⟩) b1) := Lib.hid (fun w' L h => by
              have := (h.pull 2).lsGet _ n1
              rw [eb, hb1] at this
              exact Own.rb this rfl)
            clear ea eb hb0 hb1 hca hcb
            obtain ⟨L0, hL0⟩ : ∃ L0, b0.length = L0 := ⟨_, rfl⟩
            obtain ⟨L1, hL1⟩ : ∃ L1, b1.length = L1 := ⟨_, rfl⟩
            rw [hL0] at HA ht3 p0
            rw [hL1] at HB ht3 p1
            have HL0 := Lib.hid hL0
            have HL1 := Lib.hid hL1
            clear hL0 hL1
            refine (HS.out).mono ?_
            rintro _ _ ⟨rfl, rfl⟩
            go_wp2_with fail
            refine HA.out.mono ?_
            rintro _ wa ⟨rfl, ha⟩
            go_wp2_with fail
            refine (HB.out _ ha).mono ?_
            rintro _ wb ⟨rfl, hb⟩
            have hb1 := (hb.alloc #[.int .u64 0, .int .i64 0, .slice none 0 0] 109).alloc #[.int .u64 0, .int .i64 0, .slice none 0 0] 109
            rw [size_alloc'] at hb1
            have hq1 := Lib.hid (hb1.pull 1).blk
            have hb2 := ((hb1.pull 1).row #[.int .u64 wt0, .int .i64 no0, .slice (some ⟨g0, 0, none⟩) L0 cap0]).pull 1
            have hq2 := Lib.hid hb2.blk
            have hb3 := hb2.row #[.int .u64 wt1, .int .i64 no1, .slice (some ⟨g1, 0, none⟩) L1 cap1]
            clear hb ha hb1 hb2 HA HB k0
            obtain ⟨w5, hw5, h5⟩ := name_world (P := fun x => St noB w x _) hb3
            have HW5 := Lib.hid hw5
            clear hb3 hw5
            have c10 := cell_of_heap h5.blk 0
            have c12 := cell_of_heap h5.blk 2
            have c00 := cell_of_heap (h5.pull 1).blk 0
            have c02 := cell_of_heap (h5.pull 1).blk 2
            change w5.cell? _ = some (.int .u64 wt1) at c10
            change w5.cell? _ = some (.int .u64 wt0) at c00
            change w5.cell? _ = some (.slice (some ⟨g1, 0, none⟩) L1 cap1) at c12
            change w5.cell? _ = some (.slice (some ⟨g0, 0, none⟩) L0 cap0) at c02
            have h6 : St noB w w5 (hpT b A m c vs l2 (lsT n vs ls :: [blkT tb (tabV .u8 ct) 74, blkT lb T 76])) := h5.drop.drop
            have hne : decide (m + 2 = 0) = false := by simp
            have HC := Lib.hid (concat_st (h6.alloc #[.slice (some ⟨g0, 0, none⟩) L0 cap0, .slice (some ⟨g1, 0, none⟩) L1 cap1] 43) (RB0.out · _) (RB1.out · _) HL0.out HL1.out (by omega) (by omega) (by omega))
            obtain ⟨bs, hbs⟩ : ∃ bs, b0 ++ b1 = bs := ⟨_, rfl⟩
            rw [hbs] at HC E
            have hbl : bs.length = L0 + L1 := by rw [← hbs, List.length_append, HL0.out, HL1.out]
            clear hbs h5 h6 RB0 RB1 HL0 HL1
            have hL0 : 0 < L0 + L1 := by omega
            generalize L0 + L1 = L at HC ht3 hbl hL0
            have HBL := Lib.hid hbl
            clear hbl
            by_cases hov : wt0 + wt1 < 18446744073709551616
            · have HSW : Hid (sumW wt0 wt1 = wt0 + wt1) := Lib.hid (by unfold sumW; rw [if_pos hov])
              rw [HSW.out] at E
              have hwr : IntKind.u64.wrap ((wt0 : Int) + (wt1 : Int)) = ((wt0 + wt1 : Nat) : Int) := by rw [IntKind.wrap_u64]; omega
              have hlt : ¬ ((wt0 + wt1 : Nat) : Int) < (wt0 : Int) := by omega
              generalize wt0 + wt1 = sw at hwr hlt E hov
              clear HSW
              go_wp2_with (first
              | (with_reducible refine (show wpList _ _ _ _ _ (World.alloc _ _) from ?_); refine wpList_store_row rfl _ _ _ rfl wb.heap.size #[.int .u64 wt0, .int .i64 no0, .slice (some ⟨g0, 0, none⟩) L0 cap0] rfl rfl 109 _ hq1.out (by kernel_rfl) rfl (by simp [Value.oneCell']) ?_)
              | (with_reducible refine (show wpList _ _ _ _ _ (World.setRow _ _ _) from ?_); refine wpList_store_row rfl _ _ _ rfl (wb.heap.size + 1) #[.int .u64 wt1, .int .i64 no1, .slice (some ⟨g1, 0, none⟩) L1 cap1] rfl rfl 109 _ hq2.out (by kernel_rfl) rfl (by simp [Value.oneCell']) ?_; rw [HW5.out]))
              refine HC.out.mono ?_
              rintro _ w6 ⟨A', c', rfl, h6⟩
              obtain ⟨gg, cc, e6, _⟩ := h6.own.slice hL0
              simp only [Value.slice.injEq] at e6
              obtain ⟨rfl, _, rfl⟩ := e6
              clear HC hlt hwr hq1 hq2 HW5 c10 c12 c00 c02
              go_wp2_with fail
              go_loopw [72] (fun v72 wr => ∃ k : Nat, v72 = .int .i64 k ∧ k ≤ L ∧ St noB w wr (ownT 5 1 (.slice (some ⟨gg, 0, none⟩) L c') L (bytesV bs) :: hpT b A m c vs l2 (lsT n vs ls :: [blkT tb (tabV .u8 (incs ct (bs.take k))) 74, blkT lb T 76]))) (fun v72 _ => L - (intOf v72).toNat)
              case atStart => exact ⟨0, rfl, Nat.zero_le _, h6⟩
              case round =>
                clear h6
                obtain ⟨k, rfl, hk, h⟩ := hrel
                by_cases hkl : k < L
                · have hki : (k : Int) < (L : Int) := by omega
                  have q := Own.cell h.own k (by omega)
                  rw [bytesV_get _ _ (by rw [HBL.out]; exact hkl)] at q
                  have ht : bs.take (k + 1) = bs.take k ++ [bs.getD k 0] := by
                    rw [List.take_succ_eq_append_getElem (by rw [HBL.out]; exact hkl)]; simp [hkl, HBL.out]
                  have hx8 := (bs.getD k 0).toNat_lt
                  have h4 := h.pull 4
                  have kt := cell_of_heap h4.blk (bs.getD k 0).toNat
                  rw [tabV_get _ _ _ (by omega)] at kt
                  have ft := free_of_heap h4.blk (bs.getD k 0).toNat
                  have hin := incs_lt htab (bs.take k) (bs.getD k 0).toNat
                  have h7 := h4.set (bs.getD k 0).toNat (.int .u8 ((((incs ct (bs.take k) (bs.getD k 0).toNat + 1) % 256 : Nat)) : Int))
                  rw [tabV_set _ _ _ _ (by omega), ← incs_snoc, ← ht] at h7
                  have h8 : St noB w _ (ownT 5 1 (.slice (some ⟨gg, 0, none⟩) L c') L (bytesV bs) :: hpT b A m c vs l2 (lsT n vs ls :: [blkT tb (tabV .u8 (incs ct (bs.take (k + 1)))) 74, blkT lb T 76])) := ((((h7.pull 4).pull 4).pull 4).pull 4)
                  clear h7 h4 ht h
                  change wr.cell? _ = some (Value.int .u8 (bs.getD k 0).toNat) at q
                  generalize (bs.getD k 0).toNat = y at q kt ft hin h8 hx8
                  generalize incs ct (bs.take k) y = z at kt hin h8
                  have hw8 : IntKind.u8.wrap ((z : Int) + 1) = (((z + 1) % 256 : Nat) : Int) := by rw [IntKind.wrap_u8]; omega
                  generalize (z + 1) % 256 = z1 at hw8 h8
                  have H8 := Lib.hid h8
                  clear h8
                  go_wp2_with fail
                  go_roundw
                  case rel => first | exact ⟨k + 1, by go_num, by omega, H8.out⟩ | ((repeat apply Exists.intro); exact ⟨⟨k + 1, by go_num, by omega, H8.out⟩, rfl⟩)
                  case measure => first | (simp [intOf]; done) | (simp [intOf]; omega)
                · have hki : ¬ (k : Int) < (L : Int) := by omega
                  rw [List.take_of_length_le (by rw [HBL.out]; omega)] at h
                  have h9 : St noB w wr (ownT 5 1 (.slice (some ⟨gg, 0, none⟩) L c') bs.length (bytesV bs) :: lsT n vs ls :: pull 0 (hpT b A m c vs l2 [blkT tb (tabV .u8 (incs ct bs)) 74, blkT lb T 76])) := by
                    rw [HBL.out]; exact (h.pull 3).swap
                  have h10 : St noB w wr (hpT b A m c vs l2 (lsT (n + 1) (updA vs n (.slice (some ⟨gg, 0, none⟩) L c')) (updA ls n bs) :: [blkT tb (tabV .u8 (incs ct bs)) 74, blkT lb T 76])) := ((h9.lsAdd).pull 2).pull 2
                  have HX := Lib.hid (updA_self vs n (.slice (some ⟨gg, 0, none⟩) L c'))
                  have HVV : Hid (∀ k, ∃ A3 n3 c3, updA vs n (.slice (some ⟨gg, 0, none⟩) L c') k = .slice A3 n3 c3) := Lib.hid (fun k => by
                    by_cases e : k = n
                    · subst e; rw [updA_self]; exact ⟨_, _, _, rfl⟩
                    · rw [updA_ne _ _ e]; exact hv k)
                  rw [hpT_congr b A m c (us := updA vs n (.slice (some ⟨gg, 0, none⟩) L c')) _ (fun x hx => (updA_ne _ _ (by have := mm x hx; omega)).symm)] at h10
                  generalize updA vs n (.slice (some ⟨gg, 0, none⟩) L c') = us at h10 HX HVV
                  have HP := Lib.hid (push_st (fun k => vs_one HVV.out k) h10 hl3 (by omega) sw n)
                  rw [HX.out] at HP
                  try simp only [Nat.cast_ofNat] at HP
                  have HE : Hid (∀ w7 A2 c2, St noB w w7 (hpT b A2 (m + 1) c2 us (hpush l2 (sw, n)) (lsT (n + 1) us (updA ls n bs) :: [blkT tb (tabV .u8 (incs ct bs)) 74, blkT lb T 76])) → St noB w w7 (hpT b A2 s'.l.length c2 us s'.l (lsT s'.n us s'.ls :: [blkT tb (tabV .u8 s'.tab) 74, blkT lb T 76]))) := Lib.hid (fun w7 A2 c2 h => by
                    rw [E.out]
                    show St noB w w7 (hpT b A2 (hpush l2 (sw, n)).length c2 us _ _)
                    rw [hpush_len, hl3]
                    exact h)
                  have HNN : Hid (s'.n = n + 1 ∧ roundsS s'.l.length s' = R) := Lib.hid ⟨by rw [E.out], by rw [← HR1.out, HR.out]⟩
                  have hlen : (n : Int) + 1 ≤ 512 := by omega
                  generalize incs ct bs = ct2 at h10 HP HE
                  generalize updA ls n bs = ls2 at h10 HP HE
                  generalize hpush l2 (sw, n) = l4 at HP HE
                  clear h h9 h10 HX E HR HR1
                  go_wp2_with fail
                  refine HP.out.mono ?_
                  rintro _ w7 ⟨rfl, A2, c2, h11⟩
                  clear HP
                  go_wp2_with fail
                  exact ⟨⟨s', A2, c2, us, by rw [HNN.out.1]; rfl, HO1, Lib.hid HNN.out.2, HVV.out, HE.out _ _ _ h11⟩, by rw [HSN.out]; simp only [intOf]; omega⟩
            · have HSW : Hid (sumW wt0 wt1 = 18446744073709551615) := Lib.hid (by unfold sumW; rw [if_neg hov])
              rw [HSW.out] at E
              have hwr : IntKind.u64.wrap ((wt0 : Int) + (wt1 : Int)) = ((wt0 + wt1 - 18446744073709551616 : Nat) : Int) := by rw [IntKind.wrap_u64]; omega
              have hlt : ((wt0 + wt1 - 18446744073709551616 : Nat) : Int) < (wt0 : Int) := by omega
              have hov : wt0 + wt1 - 18446744073709551616 < 18446744073709551616 := by omega
              generalize wt0 + wt1 - 18446744073709551616 = sq at hwr hlt hov
              clear HSW
              go_wp2_with (first
              | (with_reducible refine (show wpList _ _ _ _ _ (World.alloc _ _) from ?_); refine wpList_store_row rfl _ _ _ rfl wb.heap.size #[.int .u64 wt0, .int .i64 no0, .slice (some ⟨g0, 0, none⟩) L0 cap0] rfl rfl 109 _ hq1.out (by kernel_rfl) rfl (by simp [Value.oneCell']) ?_)
              | (with_reducible refine (show wpList _ _ _ _ _ (World.setRow _ _ _) from ?_); refine wpList_store_row rfl _ _ _ rfl (wb.heap.size + 1) #[.int .u64 wt1, .int .i64 no1, .slice (some ⟨g1, 0, none⟩) L1 cap1] rfl rfl 109 _ hq2.out (by kernel_rfl) rfl (by simp [Value.oneCell']) ?_; rw [HW5.out]))
              refine HC.out.mono ?_
              rintro _ w6 ⟨A', c', rfl, h6⟩
              obtain ⟨gg, cc, e6, _⟩ := h6.own.slice hL0
              simp only [Value.slice.injEq] at e6
              obtain ⟨rfl, _, rfl⟩ := e6
              clear HC hlt hwr hq1 hq2 HW5 c10 c12 c00 c02
              go_wp2_with fail
              go_loopw [72] (fun v72 wr => ∃ k : Nat, v72 = .int .i64 k ∧ k ≤ L ∧ St noB w wr (ownT 5 1 (.slice (some ⟨gg, 0, none⟩) L c') L (bytesV bs) :: hpT b A m c vs l2 (lsT n vs ls :: [blkT tb (tabV .u8 (incs ct (bs.take k))) 74, blkT lb T 76]))) (fun v72 _ => L - (intOf v72).toNat)
              case atStart => exact ⟨0, rfl, Nat.zero_le _, h6⟩
              case round =>
                clear h6
                obtain ⟨k, rfl, hk, h⟩ := hrel
                by_cases hkl : k < L
                · have hki : (k : Int) < (L : Int) := by omega
                  have q := Own.cell h.own k (by omega)
                  rw [bytesV_get _ _ (by rw [HBL.out]; exact hkl)] at q
                  have ht : bs.take (k + 1) = bs.take k ++ [bs.getD k 0] := by
                    rw [List.take_succ_eq_append_getElem (by rw [HBL.out]; exact hkl)]; simp [hkl, HBL.out]
                  have hx8 := (bs.getD k 0).toNat_lt
                  have h4 := h.pull 4
                  have kt := cell_of_heap h4.blk (bs.getD k 0).toNat
                  rw [tabV_get _ _ _ (by omega)] at kt
                  have ft := free_of_heap h4.blk (bs.getD k 0).toNat
                  have hin := incs_lt htab (bs.take k) (bs.getD k 0).toNat
                  have h7 := h4.set (bs.getD k 0).toNat (.int .u8 ((((incs ct (bs.take k) (bs.getD k 0).toNat + 1) % 256 : Nat)) : Int))
                  rw [tabV_set _ _ _ _ (by omega), ← incs_snoc, ← ht] at h7
                  have h8 : St noB w _ (ownT 5 1 (.slice (some ⟨gg, 0, none⟩) L c') L (bytesV bs) :: hpT b A m c vs l2 (lsT n vs ls :: [blkT tb (tabV .u8 (incs ct (bs.take (k + 1)))) 74, blkT lb T 76])) := ((((h7.pull 4).pull 4).pull 4).pull 4)
                  clear h7 h4 ht h
                  change wr.cell? _ = some (Value.int .u8 (bs.getD k 0).toNat) at q
                  generalize (bs.getD k 0).toNat = y at q kt ft hin h8 hx8
                  generalize incs ct (bs.take k) y = z at kt hin h8
                  have hw8 : IntKind.u8.wrap ((z : Int) + 1) = (((z + 1) % 256 : Nat) : Int) := by rw [IntKind.wrap_u8]; omega
                  generalize (z + 1) % 256 = z1 at hw8 h8
                  have H8 := Lib.hid h8
                  clear h8
                  go_wp2_with fail
                  go_roundw
                  case rel => first | exact ⟨k + 1, by go_num, by omega, H8.out⟩ | ((repeat apply Exists.intro); exact ⟨⟨k + 1, by go_num, by omega, H8.out⟩, rfl⟩)
                  case measure => first | (simp [intOf]; done) | (simp [intOf]; omega)
                · have hki : ¬ (k : Int) < (L : Int) := by omega
                  rw [List.take_of_length_le (by rw [HBL.out]; omega)] at h
                  have h9 : St noB w wr (ownT 5 1 (.slice (some ⟨gg, 0, none⟩) L c') bs.length (bytesV bs) :: lsT n vs ls :: pull 0 (hpT b A m c vs l2 [blkT tb (tabV .u8 (incs ct bs)) 74, blkT lb T 76])) := by
                    rw [HBL.out]; exact (h.pull 3).swap
                  have h10 : St noB w wr (hpT b A m c vs l2 (lsT (n + 1) (updA vs n (.slice (some ⟨gg, 0, none⟩) L c')) (updA ls n bs) :: [blkT tb (tabV .u8 (incs ct bs)) 74, blkT lb T 76])) := ((h9.lsAdd).pull 2).pull 2
                  have HX := Lib.hid (updA_self vs n (.slice (some ⟨gg, 0, none⟩) L c'))
                  have HVV : Hid (∀ k, ∃ A3 n3 c3, updA vs n (.slice (some ⟨gg, 0, none⟩) L c') k = .slice A3 n3 c3) := Lib.hid (fun k => by
                    by_cases e : k = n
                    · subst e; rw [updA_self]; exact ⟨_, _, _, rfl⟩
                    · rw [updA_ne _ _ e]; exact hv k)
                  rw [hpT_congr b A m c (us := updA vs n (.slice (some ⟨gg, 0, none⟩) L c')) _ (fun x hx => (updA_ne _ _ (by have := mm x hx; omega)).symm)] at h10
                  generalize updA vs n (.slice (some ⟨gg, 0, none⟩) L c') = us at h10 HX HVV
                  have HP := Lib.hid (push_st (fun k => vs_one HVV.out k) h10 hl3 (by omega) 18446744073709551615 n)
                  rw [HX.out] at HP
                  try simp only [Nat.cast_ofNat] at HP
                  have HE : Hid (∀ w7 A2 c2, St noB w w7 (hpT b A2 (m + 1) c2 us (hpush l2 (18446744073709551615, n)) (lsT (n + 1) us (updA ls n bs) :: [blkT tb (tabV .u8 (incs ct bs)) 74, blkT lb T 76])) → St noB w w7 (hpT b A2 s'.l.length c2 us s'.l (lsT s'.n us s'.ls :: [blkT tb (tabV .u8 s'.tab) 74, blkT lb T 76]))) := Lib.hid (fun w7 A2 c2 h => by
                    rw [E.out]
                    show St noB w w7 (hpT b A2 (hpush l2 (18446744073709551615, n)).length c2 us _ _)
                    rw [hpush_len, hl3]
                    exact h)
                  have HNN : Hid (s'.n = n + 1 ∧ roundsS s'.l.length s' = R) := Lib.hid ⟨by rw [E.out], by rw [← HR1.out, HR.out]⟩
                  have hlen : (n : Int) + 1 ≤ 512 := by omega
                  generalize incs ct bs = ct2 at h10 HP HE
                  generalize updA ls n bs = ls2 at h10 HP HE
                  generalize hpush l2 (18446744073709551615, n) = l4 at HP HE
                  clear h h9 h10 HX E HR HR1
                  go_wp2_with fail
                  refine HP.out.mono ?_
                  rintro _ w7 ⟨rfl, A2, c2, h11⟩
                  clear HP
                  go_wp2_with fail
                  exact ⟨⟨s', A2, c2, us, by rw [HNN.out.1]; rfl, HO1, Lib.hid HNN.out.2, HVV.out, HE.out _ _ _ h11⟩, by rw [HSN.out]; simp only [intOf]; omega⟩
          · rw [show decide (1 < s.l.length) = false by simp; omega] at HS
            have HS := Lib.hid HS
            have hb := Lib.hid (h.pull 3).blk
            have HX := Lib.hid h.ends
            have HT : Hid (lenT f = s.tab) := Lib.hid (by rw [HL.out, ← HR.out, rounds_end s (by omega)])
            clear HO hfew h
            generalize s.tab = ct at hb HT
            go_wp2_with fail
            refine (HS.out).mono ?_
            rintro _ _ ⟨rfl, rfl⟩
            go_wp2_with (first
              | (refine wpList_load_row rfl _ _ rfl tb rfl 74 (tabV .u8 ct) (0, 0) (.array 256 5) hb.out Tryz.underlying74 rfl (size8 _) ?_)
              | (refine wpList_store_row rfl _ _ _ rfl tb (tabV .u8 ct) rfl rfl 74 (tabV .u8 ct) hb.out (size8 _) rfl (tabV_one _ _) ?_; rw [setRow_self _ _ _ _ _ hb.out]))
            refine bodyPost_ret_by (v := .agg (tabV .u8 ct)) (results_cell_row rfl _ _ tb 74 (tabV .u8 ct) (0, 0) (.array 256 5) rfl hb.out Tryz.underlying74 rfl (size8 _)) rfl ?_
            rw [HT.out]
            exact ⟨rfl, HX.out⟩
end Go.Proofs.YtjdglpngcdcneaaGreat
