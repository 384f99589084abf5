/- Layer 9: the document's Read. -/
import Derived.Test.YtklkboibpglhjaaCDoc
import Derived.StillTailTactics
import Derived.Deep.LoopGhost
namespace Go.Proofs.Ytklkboibpglhjaa
open Go.RowKit Go.WideShapes
set_option linter.unusedVariables false
set_option linter.unusedSimpArgs false
theorem get_nat (s : ByteArray) (L : List UInt8) (hL : s.data.toList = L) (i : Nat) (h : i < s.size) : s[i].toNat = (L.getD i 0).toNat := by
  subst hL
  rw [List.getD_eq_getElem?_getD, List.getElem?_eq_getElem (by simpa using h)]; rfl
theorem wr2 (c : Int) (i : Nat) (h0 : 0 ≤ c) (h : c + 3 * i < 9223372036854775808) : IntKind.i64.wrap (c + IntKind.i64.wrap (3 * (i : Int))) = c + 3 * i := by
  rw [IntKind.wrap_i64, IntKind.wrap_i64]; omega
theorem small_ok (x0 x1 x2 x3 x4 z : Nat) (h0 : x0 < 256) (h1 : x1 < 256) (h2 : x2 < 256) (h3 : x3 < 256) (h4 : x4 < 256) (hz : z < 18446744073709551616) : (⟨x0, x1, x2, x3, x4, z⟩ : Ins).ok := by
  refine ⟨⟨?_, ?_⟩, ⟨?_, ?_⟩, ⟨?_, ?_⟩, ⟨?_, ?_⟩, ⟨?_, ?_⟩, hz⟩ <;> simp only <;> omega
theorem dAll_def (l : List UInt8) : dAll l = if l.length < 1 then none else if l.length < 2 + 3 * (l.getD 0 0).toNat then none
    else dFin l ((List.range (l.getD 0 0).toNat).map (dR l)) (dTs l (l.getD (1 + 3 * (l.getD 0 0).toNat) 0).toNat (2 + 3 * (l.getD 0 0).toNat) []) := rfl
set_option maxRecDepth 20000 in
set_option maxHeartbeats 8000000 in
theorem rread_doc (s : ByteArray) (hs : s.size ≤ 140737488351232) (w : World) :
    Calls Try.prog 25 #[.string s] w fun e w' => (∃ A B ca cb n m p, e = .returned (.tuple #[.agg #[.slice A n ca, .slice B m cb], .bool (dAll s.data.toList).isSome]) ∧ p = (dAll s.data.toList).getD ⟨[], []⟩ ∧ p.rings.length = n ∧ p.ths.length = m ∧ n ≤ ca ∧ m ≤ cb ∧ PRow w' A B p) ∧ Ext w w' := by
  have hsl : s.data.toList.length = s.size := by simp
  generalize hL : s.data.toList = L at hsl ⊢
  have HL := Lib.hid hL
  have HG := Lib.hid (get_nat s L hL)
  clear hL
  have HA := Lib.hid (dAll_def L)
  generalize dAll L = R at HA ⊢
  rw [hsl] at HA
  go_enter Try.func25, Try.ntmps25
  have h1 := (((St.start noB w).alloc #[Value.slice none 0 0, Value.slice none 0 0] 35).alloc #[Value.slice none 0 0, Value.slice none 0 0] 35).swap
  rw [← alloc_size] at h1
  by_cases hz : s.size < 1
  · have hR := HA.out
    rw [if_pos hz] at hR
    have HR := Lib.hid hR
    have hz2 : (s.size : Int) < 1 := by omega
    clear hR HA
    go_wp2_with fail
    have h8 := h1
    generalize w.heap.size + 1 = pb at h8 ⊢
    generalize w.heap.size = rb at h8 ⊢
    refine bodyPost_ret_by (results_pair rfl _ _ rb 35 _ (0, 0) _ rfl h8.blk Try.underlying35 rfl (by kernel_rfl)) rfl ?_
    rw [HR.out]
    first
      | exact ⟨⟨none, none, 0, 0, 0, 0, ⟨[], []⟩, rfl, rfl, rfl, rfl, Nat.le_refl _, Nat.le_refl _, PRow.empty _ _ _⟩, h8.ends⟩
      | exact ⟨⟨none, none, 0, 0, 0, 0, rfl, rfl, rfl, Nat.le_refl _, Nat.le_refl _, PRow.empty _ _ _⟩, h8.ends⟩
  · have h0 : 0 < s.size := by omega
    have hz2 : ¬ (s.size : Int) < 1 := by omega
    have hn := HG.out 0 h0
    have hn8 := s[0].toNat_lt
    have hR := HA.out
    rw [if_neg hz] at hR
    generalize (L.getD 0 0).toNat = n at hn hR
    rw [hn] at hn8
    clear HA hz
    by_cases h2 : s.size < 2 + 3 * n
    · rw [if_pos h2] at hR
      have HR := Lib.hid hR
      have h3 : (s.size : Int) < 2 + 3 * (n : Int) := by omega
      clear hR
      go_wp2_with fail
      have h8 := h1
      generalize w.heap.size + 1 = pb at h8 ⊢
      generalize w.heap.size = rb at h8 ⊢
      refine bodyPost_ret_by (results_pair rfl _ _ rb 35 _ (0, 0) _ rfl h8.blk Try.underlying35 rfl (by kernel_rfl)) rfl ?_
      rw [HR.out]
      first
        | exact ⟨⟨none, none, 0, 0, 0, 0, ⟨[], []⟩, rfl, rfl, rfl, rfl, Nat.le_refl _, Nat.le_refl _, PRow.empty _ _ _⟩, h8.ends⟩
        | exact ⟨⟨none, none, 0, 0, 0, 0, rfl, rfl, rfl, Nat.le_refl _, Nat.le_refl _, PRow.empty _ _ _⟩, h8.ends⟩
    · rw [if_neg h2] at hR
      have HA := Lib.hid hR
      have h3 : ¬ (s.size : Int) < 2 + 3 * (n : Int) := by omega
      clear hR
      go_wp2_with fail
      generalize w.heap.size + 1 = pb at h1 ⊢
      generalize w.heap.size = rb at h1 ⊢
      have h4 := ((h1.nilOwn 70 3).pull 2).under (fun _ ht => ht)
      change St noB w _ [blkT pb _ _, ownT _ _ _ _ _, blkT rb _ _] at h4
      clear h1 h2
      go_loopw [6] (fun v6 wr => ∃ (i : Nat) (A : Option Addr) (c : Nat), v6 = .int .i64 i ∧ i ≤ n ∧ St noB w wr [blkT pb #[Value.slice A i c, Value.slice none 0 0] 35, ownT 70 3 (.slice A i c) i (((List.range i).map (dR L)).flatMap rngC), blkT rb #[Value.slice none 0 0, Value.slice none 0 0] 35]) (fun v6 _ => n - (intOf v6).toNat)
      case atStart => exact ⟨0, none, 0, rfl, Nat.zero_le _, h4⟩
      case round =>
        clear h4
        obtain ⟨i, A, c, rfl, hi, h⟩ := hrel
        by_cases hlt : i < n
        · obtain ⟨a1, ha1⟩ : ∃ a1 : Int, a1 = ((1 + 3 * i : Nat) : Int) := ⟨_, rfl⟩
          obtain ⟨a2, ha2⟩ : ∃ a2 : Int, a2 = ((2 + 3 * i : Nat) : Int) := ⟨_, rfl⟩
          obtain ⟨a3, ha3⟩ : ∃ a3 : Int, a3 = ((3 + 3 * i : Nat) : Int) := ⟨_, rfl⟩
          have e1 : ∀ hi : a1.toNat < s.size, (s[a1.toNat]'hi).toNat = (L.getD (1 + 3 * i) 0).toNat := by subst ha1; intro hi; exact HG.out _ hi
          have e2 : ∀ hi : a2.toNat < s.size, (s[a2.toNat]'hi).toNat = (L.getD (2 + 3 * i) 0).toNat := by subst ha2; intro hi; exact HG.out _ hi
          have e3 : ∀ hi : a3.toNat < s.size, (s[a3.toNat]'hi).toNat = (L.getD (3 + 3 * i) 0).toNat := by subst ha3; intro hi; exact HG.out _ hi
          have w1 : IntKind.i64.wrap (1 + IntKind.i64.wrap (3 * (i : Int))) = a1 := (wr2 1 i (by omega) (by omega)).trans (by omega)
          have w2 : IntKind.i64.wrap (2 + IntKind.i64.wrap (3 * (i : Int))) = a2 := (wr2 2 i (by omega) (by omega)).trans (by omega)
          have w3 : IntKind.i64.wrap (3 + IntKind.i64.wrap (3 * (i : Int))) = a3 := (wr2 3 i (by omega) (by omega)).trans (by omega)
          have c1 : 0 ≤ a1 := by omega
          have c2 : 0 ≤ a2 := by omega
          have c3 : 0 ≤ a3 := by omega
          have d1 : a1 < (s.size : Int) := by omega
          have d2 : a2 < (s.size : Int) := by omega
          have d3 : a3 < (s.size : Int) := by omega
          clear ha1 ha2 ha3
          have ed : dR L i = ⟨((L.getD (1 + 3 * i) 0).toNat : Nat), ((L.getD (2 + 3 * i) 0).toNat : Nat), ((L.getD (3 + 3 * i) 0).toNat : Nat)⟩ := rfl
          have l1 := (L.getD (1 + 3 * i) 0).toNat_lt
          have l2 := (L.getD (2 + 3 * i) 0).toNat_lt
          have l3 := (L.getD (3 + 3 * i) 0).toNat_lt
          generalize (L.getD (1 + 3 * i) 0).toNat = xa at e1 ed l1
          generalize (L.getD (2 + 3 * i) 0).toNat = xb at e2 ed l2
          generalize (L.getD (3 + 3 * i) 0).toNat = xc at e3 ed l3
          have HD := Lib.hid ed
          clear ed
          have hp := cell_of_heap h.blk 0
          change wr.cell? _ = some (Value.slice A i c) at hp
          go_wp2_with fail
          have hd := h.ext ((Mut.refl noB _).drew)
          have hpd := cell_of_heap hd.blk 0
          change wr.drew.cell? _ = some (Value.slice A i c) at hpd
          have hqd := fun o : Obj => Ext.cell ((Mut.refl noB wr).alloc o) hp
          have v1 : IntKind.i64.wrap (xa : Int) = xa := by rw [IntKind.wrap_i64]; omega
          have v2 : IntKind.i64.wrap (xb : Int) = xb := by rw [IntKind.wrap_i64]; omega
          have v3 : IntKind.i64.wrap (xc : Int) = xc := by rw [IntKind.wrap_i64]; omega
          refine wp_region_any (by kernel_rfl) ?_
          change wpAny _ _ _ _ _ _ _ (World.drew _)
          refine wpAny_take (i := 0) (v := ?_) rfl (by kernel_rfl) (by kernel_rfl) (by kernel_rfl) (fun _ _ _ h => h) (Or.inl ⟨by rfl, ?_⟩) ?_
          rotate_left
          · (intro w; go_simp; try with_reducible rfl)
          refine wpAny_take (i := 2) (v := ?_) rfl (by kernel_rfl) (by kernel_rfl) (by kernel_rfl) (fun _ _ _ h => h) (Or.inl ⟨by rfl, ?_⟩) ?_
          rotate_left
          · (intro w; go_simp; try with_reducible rfl)
          refine wpAny_take (i := 3) (v := ?_) rfl (by kernel_rfl) (by kernel_rfl) (by kernel_rfl) (fun _ _ _ h => h) (Or.inl ⟨by rfl, ?_⟩) ?_
          rotate_left
          · (intro w; go_simp; try with_reducible rfl)
          refine wpAny_take (i := 4) (v := ?_) rfl (by kernel_rfl) (by kernel_rfl) (by kernel_rfl) (fun _ _ _ h => h) (Or.inl ⟨by rfl, ?_⟩) ?_
          rotate_left
          · (intro w; go_simp; try with_reducible rfl)
          refine wpAny_take (i := 5) (v := ?_) rfl (by kernel_rfl) (by kernel_rfl) (by kernel_rfl) (fun _ _ _ h => h) (Or.inl ⟨by rfl, ?_⟩) ?_
          rotate_left
          · (intro w; go_simp; try with_reducible rfl)
          refine wpAny_take (i := 6) (v := ?_) rfl (by kernel_rfl) (by kernel_rfl) (by kernel_rfl) (fun _ _ _ h => h) (Or.inl ⟨by rfl, ?_⟩) ?_
          rotate_left
          · (intro w; go_simp; try with_reducible rfl)
          refine wpAny_take (i := 7) (v := ?_) rfl (by kernel_rfl) (by kernel_rfl) (by kernel_rfl) (fun _ _ _ h => h) (Or.inl ⟨by rfl, ?_⟩) ?_
          rotate_left
          · (intro w; go_simp; try with_reducible rfl)
          refine wpAny_take (i := 8) (v := ?_) rfl (by kernel_rfl) (by kernel_rfl) (by kernel_rfl) (fun _ _ _ h => h) (Or.inl ⟨by rfl, ?_⟩) ?_
          rotate_left
          · (intro w; go_simp; try with_reducible rfl)
          refine wpAny_take (i := 9) (v := ?_) rfl (by kernel_rfl) (by kernel_rfl) (by kernel_rfl) (fun _ _ _ h => h) (Or.inl ⟨by rfl, ?_⟩) ?_
          rotate_left
          · (intro w; go_simp; try with_reducible rfl)
          refine wpAny_take (i := 10) (v := ?_) rfl (by kernel_rfl) (by kernel_rfl) (by kernel_rfl) (fun _ _ _ h => h) (Or.inl ⟨by rfl, ?_⟩) ?_
          rotate_left
          · (intro w; go_simp; try with_reducible rfl)
          refine wpAny_take (i := 11) (v := ?_) rfl (by kernel_rfl) (by kernel_rfl) (by kernel_rfl) (fun _ _ _ h => h) (Or.inl ⟨by rfl, ?_⟩) ?_
          rotate_left
          · (intro w; go_simp; try with_reducible rfl)
          refine wpAny_take (i := 12) (v := ?_) rfl (by kernel_rfl) (by kernel_rfl) (by kernel_rfl) (fun _ _ _ h => h) (Or.inl ⟨by rfl, ?_⟩) ?_
          rotate_left
          · (intro w; go_simp; try with_reducible rfl)
          refine wpAny_take (i := 13) (v := ?_) rfl (by kernel_rfl) (by kernel_rfl) (by kernel_rfl) (fun _ _ _ h => h) (Or.inl ⟨by rfl, ?_⟩) ?_
          rotate_left
          · (intro w; go_simp; try with_reducible rfl)
          refine wpAny_take (i := 14) (v := ?_) rfl (by kernel_rfl) (by kernel_rfl) (by kernel_rfl) (fun _ _ _ h => h) (Or.inl ⟨by rfl, ?_⟩) ?_
          rotate_left
          · (intro w; go_simp; try with_reducible rfl)
          refine wpAny_take (i := 15) (v := ?_) rfl (by kernel_rfl) (by kernel_rfl) (by kernel_rfl) (fun _ _ _ h => h) (Or.inl ⟨by rfl, ?_⟩) ?_
          rotate_left
          · (intro w; go_simp; try with_reducible rfl)
          refine wpAny_take (i := 16) (v := ?_) rfl (by kernel_rfl) (by kernel_rfl) (by kernel_rfl) (fun _ _ _ h => h) (Or.inl ⟨by rfl, ?_⟩) ?_
          rotate_left
          · (intro w; go_simp; try with_reducible rfl)
          refine wpAny_take (i := 17) (v := ?_) rfl (by kernel_rfl) (by kernel_rfl) (by kernel_rfl) (fun _ _ _ h => h) (Or.inl ⟨by rfl, ?_⟩) ?_
          rotate_left
          · (intro w; go_simp; try with_reducible rfl)
          refine wpAny_take (i := 18) (v := ?_) rfl (by kernel_rfl) (by kernel_rfl) (by kernel_rfl) (fun _ _ _ h => h) (Or.inl ⟨by rfl, ?_⟩) ?_
          rotate_left
          · (intro w; go_simp; try with_reducible rfl)
          refine wpAny_take (i := 19) (v := ?_) rfl (by kernel_rfl) (by kernel_rfl) (by kernel_rfl) (fun _ _ _ h => h) (Or.inl ⟨by rfl, ?_⟩) ?_
          rotate_left
          · (intro w; go_simp; try with_reducible rfl)
          refine wpAny_take (i := 20) (v := ?_) rfl (by kernel_rfl) (by kernel_rfl) (by kernel_rfl) (fun _ _ _ h => h) (Or.inl ⟨by rfl, ?_⟩) ?_
          rotate_left
          · (intro w; go_simp; try with_reducible rfl)
          refine wpAny_ready (rs := [1, 21]) (by kernel_rfl) (by simp) ?_
          refine AllReady.cons rfl (fun K hK => ?_) (AllReady.cons rfl (fun K hK => ?_) AllReady.nil)
          · go_simp
            refine hK _ _ ?_
            clear hK K
            refine wpAny_ready (rs := [21]) (by kernel_rfl) (by simp) ?_
            refine AllReady.cons rfl (fun K hK => ?_) AllReady.nil
            go_simp
            refine hK _ _ ?_
            clear hK K
            refine wpAny_ready (rs := [22]) (by kernel_rfl) (by simp) ?_
            refine AllReady.cons rfl (fun K hK => ?_) AllReady.nil
            (refine step_push rfl _ _ _ rfl 70 (.agg #[.int .i64 0, .int .i64 0, .int .i64 0]) 3 24 Try.underlying32 rng_info rfl (by decide) (hd.pull 1) rfl rfl rfl (by simp [Value.oneCell']) (by unfold maxLen; omega) (by omega) ?_; intro A' c' w5 g4; have hp5 := cell_of_heap g4.swap.blk 0; have hf5 := free_of_heap g4.swap.blk 0; change w5.cell? _ = some (Value.slice A i c) at hp5)
            refine hK _ _ ?_
            clear hK K
            refine wpAny_ready (rs := [23]) (by kernel_rfl) (by simp) ?_
            refine AllReady.cons rfl (fun K hK => ?_) AllReady.nil
            go_simp
            refine hK _ _ ?_
            clear hK K
            refine wpAny_ready (rs := [24]) (by kernel_rfl) (by simp) ?_
            refine AllReady.cons rfl (fun K hK => ?_) AllReady.nil
            go_simp
            refine hK _ _ ?_
            clear hK K
            refine wpAny_done (by kernel_rfl) ?_ _
            have g5 := g4.swap.set 0 (.slice A' (i + 1) c')
            change St noB w _ [blkT pb #[Value.slice A' (i + 1) c', Value.slice none 0 0] 35, ownT _ _ _ _ _, blkT rb _ _] at g5
            rw [show ((List.range i).map (dR L)).flatMap rngC ++ _ = ((List.range (i + 1)).map (dR L)).flatMap rngC from by rw [List.range_succ, List.map_append, List.flatMap_append, List.map_singleton, HD.out]; simp [rngC]] at g5
            clear g4
            go_wp2_with fail
            go_roundw
            case rel => first | exact ⟨i + 1, A', c', by go_num, by omega, g5⟩ | ((repeat apply Exists.intro); exact ⟨⟨i + 1, A', c', by go_num, by omega, g5⟩, rfl⟩)
            case measure => first | (simp [intOf]; done) | (simp [intOf]; omega)
          · go_simp
            refine hK _ _ ?_
            clear hK K
            refine wpAny_ready (rs := [1]) (by kernel_rfl) (by simp) ?_
            refine AllReady.cons rfl (fun K hK => ?_) AllReady.nil
            go_simp
            refine hK _ _ ?_
            clear hK K
            refine wpAny_ready (rs := [22]) (by kernel_rfl) (by simp) ?_
            refine AllReady.cons rfl (fun K hK => ?_) AllReady.nil
            (refine step_push rfl _ _ _ rfl 70 (.agg #[.int .i64 0, .int .i64 0, .int .i64 0]) 3 24 Try.underlying32 rng_info rfl (by decide) (hd.pull 1) rfl rfl rfl (by simp [Value.oneCell']) (by unfold maxLen; omega) (by omega) ?_; intro A' c' w5 g4; have hp5 := cell_of_heap g4.swap.blk 0; have hf5 := free_of_heap g4.swap.blk 0; change w5.cell? _ = some (Value.slice A i c) at hp5)
            refine hK _ _ ?_
            clear hK K
            refine wpAny_ready (rs := [23]) (by kernel_rfl) (by simp) ?_
            refine AllReady.cons rfl (fun K hK => ?_) AllReady.nil
            go_simp
            refine hK _ _ ?_
            clear hK K
            refine wpAny_ready (rs := [24]) (by kernel_rfl) (by simp) ?_
            refine AllReady.cons rfl (fun K hK => ?_) AllReady.nil
            go_simp
            refine hK _ _ ?_
            clear hK K
            refine wpAny_done (by kernel_rfl) ?_ _
            have g5 := g4.swap.set 0 (.slice A' (i + 1) c')
            change St noB w _ [blkT pb #[Value.slice A' (i + 1) c', Value.slice none 0 0] 35, ownT _ _ _ _ _, blkT rb _ _] at g5
            rw [show ((List.range i).map (dR L)).flatMap rngC ++ _ = ((List.range (i + 1)).map (dR L)).flatMap rngC from by rw [List.range_succ, List.map_append, List.flatMap_append, List.map_singleton, HD.out]; simp [rngC]] at g5
            clear g4
            go_wp2_with fail
            go_roundw
            case rel => first | exact ⟨i + 1, A', c', by go_num, by omega, g5⟩ | ((repeat apply Exists.intro); exact ⟨⟨i + 1, A', c', by go_num, by omega, g5⟩, rfl⟩)
            case measure => first | (simp [intOf]; done) | (simp [intOf]; omega)
        · obtain rfl : i = n := by omega
          have hm := HG.out (1 + 3 * i) (by omega)
          have hm8 := (L.getD (1 + 3 * i) 0).toNat_lt
          generalize (L.getD (1 + 3 * i) 0).toNat = m at hm hm8 HA
          generalize hrs : (List.range i).map (dR L) = rs at h HA
          have HRS := Lib.hid (show rs.length = i by rw [← hrs, List.length_map, List.length_range])
          clear hrs
          have hlz : ¬ (i : Int) < (i : Int) := by omega
          go_wp2_with fail
          have h5 : St noB w wr [blkT rb #[Value.slice none 0 0, Value.slice none 0 0] 35, blkT pb #[Value.slice A i c, Value.slice none 0 0] 35, ownT 51 1 (.slice none 0 0) 0 [], ownT 70 3 (.slice A i c) i (rs.flatMap rngC)] :=
            ((h.nilOwn 51 1).pull 3).under (fun _ ht => ht.swap)
          have h6 : St noB w wr ([blkT rb #[Value.slice none 0 0, Value.slice none 0 0] 35, blkT pb #[Value.slice A i c, Value.slice none 0 0] 35, ownT 51 1 (.slice none 0 0) 0 (([] : List (Value × List Ins)).reverse.map Prod.fst)] ++ (innT [] ++ [ownT 70 3 (.slice A i c) i (rs.flatMap rngC)])) := h5
          clear h h5
          go_loopw [7, 8] (fun v7 v8 wr => ∃ (a j : Nat) (ps : List (Value × List Ins)) (B : Option Addr) (cB : Nat), v7 = .int .i64 a ∧ v8 = .int .i64 j ∧ j ≤ m ∧ a ≤ s.size ∧ Hid (ps.length = j) ∧ Hid (∀ q ∈ ps, ∀ x ∈ q.2, x.ok) ∧ Hid (R = dFin L rs (dTs L (m - j) a (ps.reverse.map Prod.snd))) ∧ St noB w wr ([blkT rb #[Value.slice none 0 0, Value.slice none 0 0] 35, blkT pb #[Value.slice A i c, Value.slice B j cB] 35, ownT 51 1 (.slice B j cB) j (ps.reverse.map Prod.fst)] ++ (innT ps ++ [ownT 70 3 (.slice A i c) i (rs.flatMap rngC)]))) (fun _ v8 _ => m - (intOf v8).toNat)
          case atStart => exact ⟨2 + 3 * i, 0, [], none, 0, by go_num, rfl, Nat.zero_le _, by omega, Lib.hid rfl, Lib.hid (fun q hq => by cases hq), HA, h6⟩
          case round =>
            clear h6 HA
            obtain ⟨a, j, ps, B, cB, rfl, rfl, hj, ha, HLp, HOK, HA, h⟩ := hrel
            by_cases hjm : j < m
            · have hV := vrd_facts L a (by rw [hsl]; exact ha)
              have HRd := Lib.hid (rread_any s a hs ha)
              rw [HL.out] at HRd
              have hA := HA.out
              rw [show m - j = (m - (j + 1)) + 1 by omega] at hA
              unfold dTs at hA
              generalize vrd L a = T at HRd hV hA
              obtain ⟨k, er, b⟩ := T
              obtain ⟨hk64, her, hen, hb⟩ := hV
              simp only at HRd hA hk64 her hen hb
              rw [hsl] at hb
              have HA2 := Lib.hid hA
              clear HA hA
              by_cases he : er = 0
              · subst he
                by_cases hk : 256 < k
                · have hkz : (256 : Int) < (k : Int) := by omega
                  have HR : Hid (R = none) := Lib.hid (by rw [HA2.out, if_pos rfl, if_pos hk]; rfl)
                  go_wp2_with fail
                  refine (HRd.out _).mono ?_
                  rintro e w2 ⟨rfl, rfl⟩
                  have hx7 := h.blk
                  have h8 := h.row #[Value.slice none 0 0, Value.slice none 0 0]
                  go_wp2_with (refine wpList_store_row rfl _ _ _ rfl rb #[Value.slice none 0 0, Value.slice none 0 0] rfl rfl 35 _ hx7 (by kernel_rfl) rfl (by simp [Value.oneCell']) ?_)
                  refine bodyPost_ret_by (results_pair rfl _ _ rb 35 _ (0, 0) _ rfl h8.blk Try.underlying35 rfl (by kernel_rfl)) rfl ?_
                  rw [HR.out]
                  first
                    | exact ⟨⟨none, none, 0, 0, 0, 0, ⟨[], []⟩, rfl, rfl, rfl, rfl, Nat.le_refl _, Nat.le_refl _, PRow.empty _ _ _⟩, h8.ends⟩
                    | exact ⟨⟨none, none, 0, 0, 0, 0, rfl, rfl, rfl, Nat.le_refl _, Nat.le_refl _, PRow.empty _ _ _⟩, h8.ends⟩
                · have hkz : ¬ (256 : Int) < (k : Int) := by omega
                  have hA := HA2.out
                  rw [if_pos rfl, if_neg hk] at hA
                  have HA := Lib.hid hA
                  clear HA2 hA
                  go_wp2_with fail
                  refine (HRd.out _).mono ?_
                  rintro e w2 ⟨rfl, rfl⟩
                  go_wp2_with fail
                  have h7 := h.nilOwn 24 6
                  clear h
                  go_loopw [7, 12, 13] (fun v7 v12 v13 wq => ∃ (b i3 : Nat) (acc : List Ins) (D : Option Addr) (cD : Nat), v7 = .int .i64 b ∧ v12 = .slice D i3 cD ∧ v13 = .int .i64 i3 ∧ i3 ≤ k ∧ b ≤ s.size ∧ Hid (acc.length = i3) ∧ Hid (∀ x ∈ acc, x.ok) ∧ Hid (R = dFin L rs ((dIs L (k - i3) b acc).bind fun q => dTs L (m - (j + 1)) q.2 (ps.reverse.map Prod.snd ++ [q.1]))) ∧ St noB w wq (ownT 24 6 (.slice D i3 cD) i3 (acc.flatMap insC) :: ([blkT rb #[Value.slice none 0 0, Value.slice none 0 0] 35, blkT pb #[Value.slice A i c, Value.slice B j cB] 35, ownT 51 1 (.slice B j cB) j (ps.reverse.map Prod.fst)] ++ (innT ps ++ [ownT 70 3 (.slice A i c) i (rs.flatMap rngC)])))) (fun _ _ v13 _ => k - (intOf v13).toNat)
                  case atStart => exact ⟨b, 0, [], none, 0, rfl, rfl, rfl, Nat.zero_le _, hb, Lib.hid rfl, Lib.hid (fun x hx => by cases hx), HA, h7⟩
                  case round =>
                    clear h7 HA HRd hb hen
                    obtain ⟨b, i3, acc, D, cD, rfl, rfl, rfl, hi3, hb, HLa, HOa, HA, h⟩ := hrel
                    by_cases hik : i3 < k
                    · have hA := HA.out
                      rw [show k - i3 = (k - (i3 + 1)) + 1 by omega] at hA
                      unfold dIs at hA
                      rw [hsl] at hA
                      have wk : IntKind.i64.wrap (k : Int) = k := by rw [IntKind.wrap_i64]; omega
                      by_cases h5 : s.size < b + 5
                      · have HR : Hid (R = none) := Lib.hid (by rw [hA, if_pos h5]; rfl)
                        have h5z : (s.size : Int) < (b : Int) + 5 := by omega
                        replace h := h.pull 1
                        clear hA HA
                        have hx7 := h.blk
                        have h8 := h.row #[Value.slice none 0 0, Value.slice none 0 0]
                        go_wp2_with (refine wpList_store_row rfl _ _ _ rfl rb #[Value.slice none 0 0, Value.slice none 0 0] rfl rfl 35 _ hx7 (by kernel_rfl) rfl (by simp [Value.oneCell']) ?_)
                        refine bodyPost_ret_by (results_pair rfl _ _ rb 35 _ (0, 0) _ rfl h8.blk Try.underlying35 rfl (by kernel_rfl)) rfl ?_
                        rw [HR.out]
                        first
                          | exact ⟨⟨none, none, 0, 0, 0, 0, ⟨[], []⟩, rfl, rfl, rfl, rfl, Nat.le_refl _, Nat.le_refl _, PRow.empty _ _ _⟩, h8.ends⟩
                          | exact ⟨⟨none, none, 0, 0, 0, 0, rfl, rfl, rfl, Nat.le_refl _, Nat.le_refl _, PRow.empty _ _ _⟩, h8.ends⟩
                      · rw [if_neg h5] at hA
                        have h5z : ¬ (s.size : Int) < (b : Int) + 5 := by omega
                        have hV := vrd_facts L (b + 5) (by rw [hsl]; omega)
                        have HRd := Lib.hid (rread_any s (b + 5) hs (by omega))
                        rw [HL.out, show (((b + 5 : Nat)) : Int) = (b : Int) + 5 from rfl] at HRd
                        generalize vrd L (b + 5) = T at HRd hV hA
                        obtain ⟨z, er, b2⟩ := T
                        obtain ⟨hz64, her, hen, hb2⟩ := hV
                        simp only at HRd hA hz64 her hen hb2
                        rw [hsl] at hb2
                        have HA2 := Lib.hid hA
                        clear HA hA
                        obtain ⟨a1, ha1⟩ : ∃ a1 : Int, a1 = ((b + 1 : Nat) : Int) := ⟨_, rfl⟩
                        obtain ⟨a2, ha2⟩ : ∃ a2 : Int, a2 = ((b + 2 : Nat) : Int) := ⟨_, rfl⟩
                        obtain ⟨a3, ha3⟩ : ∃ a3 : Int, a3 = ((b + 3 : Nat) : Int) := ⟨_, rfl⟩
                        obtain ⟨a4, ha4⟩ : ∃ a4 : Int, a4 = ((b + 4 : Nat) : Int) := ⟨_, rfl⟩
                        have e0 : ∀ hi : b < s.size, (s[b]'hi).toNat = (L.getD b 0).toNat := fun hi => HG.out _ hi
                        have e1 : ∀ hi : a1.toNat < s.size, (s[a1.toNat]'hi).toNat = (L.getD (b + 1) 0).toNat := by subst ha1; intro hi; exact HG.out _ hi
                        have e2 : ∀ hi : a2.toNat < s.size, (s[a2.toNat]'hi).toNat = (L.getD (b + 2) 0).toNat := by subst ha2; intro hi; exact HG.out _ hi
                        have e3 : ∀ hi : a3.toNat < s.size, (s[a3.toNat]'hi).toNat = (L.getD (b + 3) 0).toNat := by subst ha3; intro hi; exact HG.out _ hi
                        have e4 : ∀ hi : a4.toNat < s.size, (s[a4.toNat]'hi).toNat = (L.getD (b + 4) 0).toNat := by subst ha4; intro hi; exact HG.out _ hi
                        have w1 : IntKind.i64.wrap ((b : Int) + 1) = a1 := by rw [IntKind.wrap_i64]; omega
                        have w2 : IntKind.i64.wrap ((b : Int) + 2) = a2 := by rw [IntKind.wrap_i64]; omega
                        have w3 : IntKind.i64.wrap ((b : Int) + 3) = a3 := by rw [IntKind.wrap_i64]; omega
                        have w4 : IntKind.i64.wrap ((b : Int) + 4) = a4 := by rw [IntKind.wrap_i64]; omega
                        have c0 : (0 : Int) ≤ (b : Int) := by omega
                        have d0 : (b : Int) < (s.size : Int) := by omega
                        have c1 : 0 ≤ a1 := by omega
                        have c2 : 0 ≤ a2 := by omega
                        have c3 : 0 ≤ a3 := by omega
                        have c4 : 0 ≤ a4 := by omega
                        have d1 : a1 < (s.size : Int) := by omega
                        have d2 : a2 < (s.size : Int) := by omega
                        have d3 : a3 < (s.size : Int) := by omega
                        have d4 : a4 < (s.size : Int) := by omega
                        have ed : dI L b z = ⟨((L.getD b 0).toNat : Nat), ((L.getD (b + 1) 0).toNat : Nat), ((L.getD (b + 2) 0).toNat : Nat), ((L.getD (b + 3) 0).toNat : Nat), ((L.getD (b + 4) 0).toNat : Nat), z⟩ := rfl
                        have l0 := (L.getD b 0).toNat_lt
                        have l1 := (L.getD (b + 1) 0).toNat_lt
                        have l2 := (L.getD (b + 2) 0).toNat_lt
                        have l3 := (L.getD (b + 3) 0).toNat_lt
                        have l4 := (L.getD (b + 4) 0).toNat_lt
                        generalize (L.getD b 0).toNat = x0 at e0 ed l0
                        generalize (L.getD (b + 1) 0).toNat = x1 at e1 ed l1
                        generalize (L.getD (b + 2) 0).toNat = x2 at e2 ed l2
                        generalize (L.getD (b + 3) 0).toNat = x3 at e3 ed l3
                        generalize (L.getD (b + 4) 0).toNat = x4 at e4 ed l4
                        have HD := Lib.hid ed
                        clear ed ha1 ha2 ha3 ha4
                        have v0 : IntKind.i64.wrap (x0 : Int) = x0 := by rw [IntKind.wrap_i64]; omega
                        have v1 : IntKind.i64.wrap (x1 : Int) = x1 := by rw [IntKind.wrap_i64]; omega
                        have v2 : IntKind.i64.wrap (x2 : Int) = x2 := by rw [IntKind.wrap_i64]; omega
                        have v3 : IntKind.i64.wrap (x3 : Int) = x3 := by rw [IntKind.wrap_i64]; omega
                        have v4 : IntKind.i64.wrap (x4 : Int) = x4 := by rw [IntKind.wrap_i64]; omega
                        go_wp2_with fail
                        refine wp_region_any (by kernel_rfl) ?_
                        change wpAny _ _ _ _ _ _ _ (World.drew _)
                        refine wpAny_take (i := 0) (v := ?_) rfl (by kernel_rfl) (by kernel_rfl) (by kernel_rfl) (fun _ _ _ h => h) (Or.inl ⟨by rfl, ?_⟩) ?_
                        rotate_left
                        · (intro w; go_simp; try with_reducible rfl)
                        refine wpAny_take (i := 1) (v := ?_) rfl (by kernel_rfl) (by kernel_rfl) (by kernel_rfl) (fun _ _ _ h => h) (Or.inl ⟨by rfl, ?_⟩) ?_
                        rotate_left
                        · (intro w; go_simp; try with_reducible rfl)
                        refine wpAny_take (i := 2) (v := ?_) rfl (by kernel_rfl) (by kernel_rfl) (by kernel_rfl) (fun _ _ _ h => h) (Or.inl ⟨by rfl, ?_⟩) ?_
                        rotate_left
                        · (intro w; go_simp; try with_reducible rfl)
                        refine wpAny_take (i := 3) (v := ?_) rfl (by kernel_rfl) (by kernel_rfl) (by kernel_rfl) (fun _ _ _ h => h) (Or.inl ⟨by rfl, ?_⟩) ?_
                        rotate_left
                        · (intro w; go_simp; try with_reducible rfl)
                        refine wpAny_take (i := 4) (v := ?_) rfl (by kernel_rfl) (by kernel_rfl) (by kernel_rfl) (fun _ _ _ h => h) (Or.inl ⟨by rfl, ?_⟩) ?_
                        rotate_left
                        · (intro w; go_simp; try with_reducible rfl)
                        refine wpAny_take (i := 5) (v := ?_) rfl (by kernel_rfl) (by kernel_rfl) (by kernel_rfl) (fun _ _ _ h => h) (Or.inl ⟨by rfl, ?_⟩) ?_
                        rotate_left
                        · (intro w; go_simp; try with_reducible rfl)
                        refine wpAny_take (i := 6) (v := ?_) rfl (by kernel_rfl) (by kernel_rfl) (by kernel_rfl) (fun _ _ _ h => h) (Or.inl ⟨by rfl, ?_⟩) ?_
                        rotate_left
                        · (intro w; go_simp; try with_reducible rfl)
                        refine wpAny_take (i := 7) (v := ?_) rfl (by kernel_rfl) (by kernel_rfl) (by kernel_rfl) (fun _ _ _ h => h) (Or.inl ⟨by rfl, ?_⟩) ?_
                        rotate_left
                        · (intro w; go_simp; try with_reducible rfl)
                        refine wpAny_take (i := 8) (v := ?_) rfl (by kernel_rfl) (by kernel_rfl) (by kernel_rfl) (fun _ _ _ h => h) (Or.inl ⟨by rfl, ?_⟩) ?_
                        rotate_left
                        · (intro w; go_simp; try with_reducible rfl)
                        refine wpAny_take (i := 9) (v := ?_) rfl (by kernel_rfl) (by kernel_rfl) (by kernel_rfl) (fun _ _ _ h => h) (Or.inl ⟨by rfl, ?_⟩) ?_
                        rotate_left
                        · (intro w; go_simp; try with_reducible rfl)
                        refine wpAny_take (i := 10) (v := ?_) rfl (by kernel_rfl) (by kernel_rfl) (by kernel_rfl) (fun _ _ _ h => h) (Or.inl ⟨by rfl, ?_⟩) ?_
                        rotate_left
                        · (intro w; go_simp; try with_reducible rfl)
                        refine wpAny_take (i := 11) (v := ?_) rfl (by kernel_rfl) (by kernel_rfl) (by kernel_rfl) (fun _ _ _ h => h) (Or.inl ⟨by rfl, ?_⟩) ?_
                        rotate_left
                        · (intro w; go_simp; try with_reducible rfl)
                        refine wpAny_take (i := 12) (v := ?_) rfl (by kernel_rfl) (by kernel_rfl) (by kernel_rfl) (fun _ _ _ h => h) (Or.inl ⟨by rfl, ?_⟩) ?_
                        rotate_left
                        · (intro w; go_simp; try with_reducible rfl)
                        refine wpAny_take (i := 13) (v := ?_) rfl (by kernel_rfl) (by kernel_rfl) (by kernel_rfl) (fun _ _ _ h => h) (Or.inl ⟨by rfl, ?_⟩) ?_
                        rotate_left
                        · (intro w; go_simp; try with_reducible rfl)
                        refine wpAny_take (i := 14) (v := ?_) rfl (by kernel_rfl) (by kernel_rfl) (by kernel_rfl) (fun _ _ _ h => h) (Or.inl ⟨by rfl, ?_⟩) ?_
                        rotate_left
                        · (intro w; go_simp; try with_reducible rfl)
                        refine wpAny_take (i := 15) (v := ?_) rfl (by kernel_rfl) (by kernel_rfl) (by kernel_rfl) (fun _ _ _ h => h) (Or.inl ⟨by rfl, ?_⟩) ?_
                        rotate_left
                        · (intro w; go_simp; try with_reducible rfl)
                        refine wpAny_take (i := 16) (v := ?_) rfl (by kernel_rfl) (by kernel_rfl) (by kernel_rfl) (fun _ _ _ h => h) (Or.inl ⟨by rfl, ?_⟩) ?_
                        rotate_left
                        · (intro w; go_simp; try with_reducible rfl)
                        refine wpAny_take (i := 17) (v := ?_) rfl (by kernel_rfl) (by kernel_rfl) (by kernel_rfl) (fun _ _ _ h => h) (Or.inl ⟨by rfl, ?_⟩) ?_
                        rotate_left
                        · (intro w; go_simp; try with_reducible rfl)
                        refine wpAny_take (i := 18) (v := ?_) rfl (by kernel_rfl) (by kernel_rfl) (by kernel_rfl) (fun _ _ _ h => h) (Or.inl ⟨by rfl, ?_⟩) ?_
                        rotate_left
                        · (intro w; go_simp; try with_reducible rfl)
                        refine wpAny_take (i := 19) (v := ?_) rfl (by kernel_rfl) (by kernel_rfl) (by kernel_rfl) (fun _ _ _ h => h) (Or.inl ⟨by rfl, ?_⟩) ?_
                        rotate_left
                        · (intro w; go_simp; try with_reducible rfl)
                        refine wpAny_take (i := 20) (v := ?_) rfl (by kernel_rfl) (by kernel_rfl) (by kernel_rfl) (fun _ _ _ h => h) (Or.inl ⟨by rfl, ?_⟩) ?_
                        rotate_left
                        · (intro w; go_simp; try with_reducible rfl)
                        refine wpAny_take (i := 21) (v := ?_) rfl (by kernel_rfl) (by kernel_rfl) (by kernel_rfl) (fun _ _ _ h => h) (Or.inl ⟨by rfl, ?_⟩) ?_
                        rotate_left
                        · (intro w; go_simp; try with_reducible rfl)
                        refine wpAny_take (i := 22) (v := ?_) rfl (by kernel_rfl) (by kernel_rfl) (by kernel_rfl) (fun _ _ _ h => h) (Or.inl ⟨by rfl, ?_⟩) ?_
                        rotate_left
                        · (intro w; go_simp; try with_reducible rfl)
                        refine wpAny_take (i := 23) (v := ?_) rfl (by kernel_rfl) (by kernel_rfl) (by kernel_rfl) (fun _ _ _ h => h) (Or.inl ⟨by rfl, ?_⟩) ?_
                        rotate_left
                        · (intro w; go_simp; try with_reducible rfl)
                        refine wpAny_take (i := 24) (v := ?_) rfl (by kernel_rfl) (by kernel_rfl) (by kernel_rfl) (fun _ _ _ h => h) (Or.inl ⟨by rfl, ?_⟩) ?_
                        rotate_left
                        · (intro w; go_simp; try with_reducible rfl)
                        generalize hwd : wr.drew = wd
                        have h8 := h.ext ((Mut.refl noB wr).drew)
                        rw [hwd] at h8
                        have h9 := h8.alloc #[Value.int .i64 x0, Value.int .i64 x1, Value.int .i64 x2, Value.int .i64 x3, Value.int .i64 x4, Value.int .u64 0] 24
                        clear h hwd w1 w2 w3 w4 e0 e1 e2 e3 e4 c0 c1 c2 c3 c4 d0 d1 d2 d3 d4
                        refine wpAny_ready (rs := [25]) (by kernel_rfl) (by simp) ?_
                        refine AllReady.cons rfl (fun K hK => ?_) AllReady.nil
                        go_simp
                        refine hK _ _ ?_
                        clear hK K
                        refine wpAny_ready (rs := [26]) (by kernel_rfl) (by simp) ?_
                        refine AllReady.cons rfl (fun K hK => ?_) AllReady.nil
                        go_simp
                        refine hK _ _ ?_
                        clear hK K
                        refine wpAny_done (by kernel_rfl) ?_ _
                        go_wp2_with fail
                        refine (HRd.out _).mono ?_
                        rintro e w10 ⟨rfl, rfl⟩
                        by_cases he : er = 0
                        · subst he
                          have h10 := h8.alloc #[Value.int .i64 x0, Value.int .i64 x1, Value.int .i64 x2, Value.int .i64 x3, Value.int .i64 x4, Value.int .u64 z] 24
                          have hA := HA2.out
                          rw [if_pos rfl, HD.out] at hA
                          have HA := Lib.hid hA
                          have HOa2 : Hid (∀ x ∈ acc ++ [(⟨x0, x1, x2, x3, x4, z⟩ : Ins)], x.ok) := Lib.hid (by
                            intro x hx
                            rcases List.mem_append.1 hx with hx | hx
                            · exact HOa.out x hx
                            · rw [List.mem_singleton.1 hx]; exact small_ok x0 x1 x2 x3 x4 z l0 l1 l2 l3 l4 hz64)
                          clear h9 hA HA2 HD HRd
                          go_upto_region 28 with fail
                          generalize wd.alloc (.cells #[Value.int .i64 x0, Value.int .i64 x1, Value.int .i64 x2, Value.int .i64 x3, Value.int .i64 x4, Value.int .u64 z] 24) = we at h10 ⊢
                          generalize wd.heap.size = xb at h10 ⊢
                          have hrow := h10.blk
                          have h11 := h10.swap
                          clear h10
                          go_wp2_with (first
                            | (refine wpList_load_row rfl _ _ rfl xb rfl 24 #[Value.int .i64 x0, Value.int .i64 x1, Value.int .i64 x2, Value.int .i64 x3, Value.int .i64 x4, Value.int .u64 z] (0, 0) _ hrow Try.underlying24 rfl (by kernel_rfl) ?_)
                            | (at_builtin; refine wpList_push rfl _ _ _ rfl 24 (.agg #[.int .i64 0, .int .i64 0, .int .i64 0, .int .i64 0, .int .i64 0, .int .u64 0]) 6 48 Try.underlying51 ins_info rfl (by decide) h11 rfl rfl rfl (by simp [Value.oneCell']) (by unfold maxLen; omega) (by omega) ?_; intro D' cD' w12 h12))
                          rw [show acc.flatMap insC ++ _ = (acc ++ [(⟨x0, x1, x2, x3, x4, z⟩ : Ins)]).flatMap insC from by simp [insC]] at h12
                          have h13 := h12.swap.drop
                          have HLa2 : Hid ((acc ++ [(⟨x0, x1, x2, x3, x4, z⟩ : Ins)]).length = i3 + 1) := Lib.hid (by simp [HLa.out])
                          clear h11 h12 h8
                          go_wp2_with fail
                          go_roundw
                          case rel => first | exact ⟨b2, i3 + 1, _, D', cD', rfl, rfl, by go_num, by omega, hb2, HLa2, HOa2, HA, h13⟩ | ((repeat apply Exists.intro); exact ⟨⟨b2, i3 + 1, _, D', cD', rfl, rfl, by go_num, by omega, hb2, HLa2, HOa2, HA, h13⟩, rfl⟩)
                          case measure => first | (simp [intOf]; done) | (simp [intOf]; omega)
                        · have hez : ((er : Int) != 0) = true := by rw [bne_iff_ne]; omega
                          have HR : Hid (R = none) := Lib.hid (by rw [HA2.out, if_neg he]; rfl)
                          clear he
                          have h := h9.pull 2
                          clear h9 h8
                          have hx7 := h.blk
                          have h8 := h.row #[Value.slice none 0 0, Value.slice none 0 0]
                          go_wp2_with (refine wpList_store_row rfl _ _ _ rfl rb #[Value.slice none 0 0, Value.slice none 0 0] rfl rfl 35 _ hx7 (by kernel_rfl) rfl (by simp [Value.oneCell']) ?_)
                          refine bodyPost_ret_by (results_pair rfl _ _ rb 35 _ (0, 0) _ rfl h8.blk Try.underlying35 rfl (by kernel_rfl)) rfl ?_
                          rw [HR.out]
                          first
                            | exact ⟨⟨none, none, 0, 0, 0, 0, ⟨[], []⟩, rfl, rfl, rfl, rfl, Nat.le_refl _, Nat.le_refl _, PRow.empty _ _ _⟩, h8.ends⟩
                            | exact ⟨⟨none, none, 0, 0, 0, 0, rfl, rfl, rfl, Nat.le_refl _, Nat.le_refl _, PRow.empty _ _ _⟩, h8.ends⟩
                    · obtain rfl : i3 = k := by omega
                      have wk : IntKind.i64.wrap (i3 : Int) = i3 := by rw [IntKind.wrap_i64]; omega
                      have hik2 : ¬ (i3 : Int) < (i3 : Int) := by omega
                      have hA := HA.out
                      rw [Nat.sub_self] at hA
                      change R = dFin L rs (dTs L (m - (j + 1)) b (ps.reverse.map Prod.snd ++ [acc])) at hA
                      have HA2 := Lib.hid hA
                      clear hA HA
                      have hp := cell_of_heap (h.pull 2).blk 1
                      change _ = some (Value.slice B j cB) at hp
                      have hjj : (j : Int) < (m : Int) := by omega
                      go_wp2_with (at_builtin; refine wpList_push rfl _ _ _ rfl 51 (.slice none 0 0) 1 24 Try.underlying33 ths_info rfl (by decide) (h.pull 3) rfl rfl rfl (by simp [Value.oneCell']) (by unfold maxLen; omega) (by omega) ?_; intro B' cB' w5 g4; have hp5 := cell_of_heap (g4.pull 3).blk 1; have hf5 := free_of_heap (g4.pull 3).blk 1; change w5.cell? _ = some (Value.slice B j cB) at hp5)
                      have g5 := (g4.pull 3).set 1 (.slice B' (j + 1) cB')
                      have g6 := g5.pull 3
                      change St noB w _ (blkT rb _ _ :: blkT pb _ _ :: ownT _ _ _ _ _ :: ownT _ _ _ _ _ :: (innT ps ++ _)) at g6
                      have HL2 : Hid ((((Value.slice D i3 cD, acc) : Value × List Ins) :: ps).length = j + 1) := Lib.hid (by simp [HLp.out])
                      have HOK2 : Hid (∀ q ∈ ((Value.slice D i3 cD, acc) : Value × List Ins) :: ps, ∀ x ∈ q.2, x.ok) := Lib.hid (by intro q hq; rcases List.mem_cons.1 hq with rfl | hq; exact HOa.out; exact HOK.out q hq)
                      have HA3 : Hid (R = dFin L rs (dTs L (m - (j + 1)) b ((((Value.slice D i3 cD, acc) : Value × List Ins) :: ps).reverse.map Prod.snd))) := Lib.hid (by rw [HA2.out]; simp)
                      have g7 : St noB w (w5.setCell ⟨pb, 1, none⟩ (.slice B' (j + 1) cB')) ([blkT rb #[Value.slice none 0 0, Value.slice none 0 0] 35, blkT pb #[Value.slice A i c, Value.slice B' (j + 1) cB'] 35, ownT 51 1 (.slice B' (j + 1) cB') (j + 1) ((((Value.slice D i3 cD, acc) : Value × List Ins) :: ps).reverse.map Prod.fst)] ++ (innT (((Value.slice D i3 cD, acc) : Value × List Ins) :: ps) ++ [ownT 70 3 (.slice A i c) i (rs.flatMap rngC)])) := by (have hnd := HLa.out; subst hnd; simpa [innT] using g6)
                      clear g4 g5 g6 h hp
                      go_wp2_with fail
                      go_roundw
                      case rel => first | exact ⟨b, j + 1, _, B', cB', rfl, by go_num, by omega, hb, HL2, HOK2, HA3, g7⟩ | ((repeat apply Exists.intro); exact ⟨⟨b, j + 1, _, B', cB', rfl, by go_num, by omega, hb, HL2, HOK2, HA3, g7⟩, rfl⟩)
                      case measure => first | (simp [intOf]; done) | (simp [intOf]; omega)
              · have hez : ((er : Int) != 0) = true := by rw [bne_iff_ne]; omega
                have HR : Hid (R = none) := Lib.hid (by rw [HA2.out, if_neg he]; rfl)
                clear he
                go_wp2_with fail
                refine (HRd.out _).mono ?_
                rintro e w2 ⟨rfl, rfl⟩
                have hx7 := h.blk
                have h8 := h.row #[Value.slice none 0 0, Value.slice none 0 0]
                go_wp2_with (refine wpList_store_row rfl _ _ _ rfl rb #[Value.slice none 0 0, Value.slice none 0 0] rfl rfl 35 _ hx7 (by kernel_rfl) rfl (by simp [Value.oneCell']) ?_)
                refine bodyPost_ret_by (results_pair rfl _ _ rb 35 _ (0, 0) _ rfl h8.blk Try.underlying35 rfl (by kernel_rfl)) rfl ?_
                rw [HR.out]
                first
                  | exact ⟨⟨none, none, 0, 0, 0, 0, ⟨[], []⟩, rfl, rfl, rfl, rfl, Nat.le_refl _, Nat.le_refl _, PRow.empty _ _ _⟩, h8.ends⟩
                  | exact ⟨⟨none, none, 0, 0, 0, 0, rfl, rfl, rfl, Nat.le_refl _, Nat.le_refl _, PRow.empty _ _ _⟩, h8.ends⟩
            · obtain rfl : j = m := by omega
              have hjj : ¬ (j : Int) < (j : Int) := by omega
              have hA := HA.out
              rw [Nat.sub_self] at hA
              change R = (if a = L.length ∧ writtenB ⟨rs, ps.reverse.map Prod.snd⟩ = true then some ⟨rs, ps.reverse.map Prod.snd⟩ else none) at hA
              rw [hsl] at hA
              have HA2 := Lib.hid hA
              clear hA HA
              by_cases hae : a = s.size
              · subst hae
                have hez : ((s.size : Int) != (s.size : Int)) = false := by simp
                have hps : (ps.reverse.map Prod.snd).length = j := by rw [List.length_map, List.length_reverse]; exact HLp.out
                have hok : (⟨rs, ps.reverse.map Prod.snd⟩ : Prg).ok := by
                  intro l hl x hx
                  simp only [List.mem_map, List.mem_reverse] at hl
                  obtain ⟨q, hq, rfl⟩ := hl
                  exact HOK.out q hq x hx
                have HPR := Lib.hid (fun (w' : World) (X : Array Value) (h : St noB w w' ([blkT rb X 35, blkT pb #[Value.slice A i c, Value.slice B j cB] 35, ownT 51 1 (.slice B j cB) j (ps.reverse.map Prod.fst)] ++ (innT ps ++ [ownT 70 3 (.slice A i c) i (rs.flatMap rngC)]))) => (show PRow w' A B ⟨rs, ps.reverse.map Prod.snd⟩ from ⟨GRow.own rngC_len ((h.mem (t := ownT 70 3 (.slice A i c) i (rs.flatMap rngC)) (by simp)).choose_spec).1 HRS.out, TRow.of (h.pull 2).own (fun q hq => (h.mem (t := ownT 24 6 q.1 q.2.length (q.2.flatMap insC)) (by simp only [innT, List.mem_append, List.mem_map]; exact .inr (.inl ⟨q, hq, rfl⟩))).choose_spec.1)⟩))
                have HCA := Lib.hid ((h.mem (t := ownT 70 3 (.slice A i c) i (rs.flatMap rngC)) (by simp)).choose_spec.1.capOk)
                have HCB := Lib.hid (h.pull 2).own.capOk
                have HW := Lib.hid (fun w' (x : Ext wr w') => rwritten_any A B c cB i j ⟨rs, ps.reverse.map Prod.snd⟩ HRS.out hps HCA.out.1 HCB.out.1 (by omega) (by omega) w' (HPR.out w' _ (h.ext x)) hok)
                have HPS := Lib.hid hps
                clear hps hok
                have hp0 := cell_of_heap (h.pull 1).blk 0
                have hp1 := cell_of_heap (h.pull 1).blk 1
                change wr.cell? _ = some (Value.slice A i c) at hp0
                change wr.cell? _ = some (Value.slice B j cB) at hp1
                cases hwr : writtenB ⟨rs, ps.reverse.map Prod.snd⟩ with
                | false =>
                  rw [hwr] at HW
                  have HR : Hid (R = none) := Lib.hid (by rw [HA2.out, hwr, if_neg (fun h => by cases h.2)])
                  clear HA2 hwr
                  go_wp2_with fail
                  refine (HW.out wr (Mut.refl _ _)).mono ?_
                  rintro e w5 ⟨rfl, x5⟩
                  replace h := h.ext x5
                  clear hp0 hp1
                  have hx7 := h.blk
                  have h8 := h.row #[Value.slice none 0 0, Value.slice none 0 0]
                  go_wp2_with (refine wpList_store_row rfl _ _ _ rfl rb #[Value.slice none 0 0, Value.slice none 0 0] rfl rfl 35 _ hx7 (by kernel_rfl) rfl (by simp [Value.oneCell']) ?_)
                  refine bodyPost_ret_by (results_pair rfl _ _ rb 35 _ (0, 0) _ rfl h8.blk Try.underlying35 rfl (by kernel_rfl)) rfl ?_
                  rw [HR.out]
                  first
                    | exact ⟨⟨none, none, 0, 0, 0, 0, ⟨[], []⟩, rfl, rfl, rfl, rfl, Nat.le_refl _, Nat.le_refl _, PRow.empty _ _ _⟩, h8.ends⟩
                    | exact ⟨⟨none, none, 0, 0, 0, 0, rfl, rfl, rfl, Nat.le_refl _, Nat.le_refl _, PRow.empty _ _ _⟩, h8.ends⟩
                | true =>
                  rw [hwr] at HW
                  have HR : Hid (R = some ⟨rs, ps.reverse.map Prod.snd⟩) := Lib.hid (by rw [HA2.out, hwr, if_pos ⟨rfl, rfl⟩])
                  clear HA2 hwr
                  go_wp2_with fail
                  refine (HW.out wr (Mut.refl _ _)).mono ?_
                  rintro e w5 ⟨rfl, x5⟩
                  replace h := h.ext x5
                  clear hp0 hp1
                  have hrow := (h.pull 1).blk
                  have hx7 := h.blk
                  have h8 := h.row #[Value.slice A i c, Value.slice B j cB]
                  have HP6 := Lib.hid (HPR.out _ _ h8)
                  go_wp2_with (first
                    | (refine wpList_load_row rfl _ _ rfl pb rfl 35 #[Value.slice A i c, Value.slice B j cB] (0, 0) _ hrow Try.underlying35 rfl (by kernel_rfl) ?_)
                    | (refine wpList_store_row rfl _ _ _ rfl rb #[Value.slice A i c, Value.slice B j cB] rfl rfl 35 _ hx7 (by kernel_rfl) rfl (by simp [Value.oneCell']) ?_))
                  refine bodyPost_ret_by (results_pair rfl _ _ rb 35 _ (0, 0) _ rfl h8.blk Try.underlying35 rfl (by kernel_rfl)) rfl ?_
                  rw [HR.out]
                  first
                    | exact ⟨⟨A, B, c, cB, i, j, _, rfl, rfl, HRS.out, HPS.out, HCA.out.1, HCB.out.1, HP6.out⟩, h8.ends⟩
                    | exact ⟨⟨A, B, c, cB, i, j, rfl, HRS.out, HPS.out, HCA.out.1, HCB.out.1, HP6.out⟩, h8.ends⟩
              · have hez : ((a : Int) != (s.size : Int)) = true := by rw [bne_iff_ne]; omega
                have HR : Hid (R = none) := Lib.hid (by rw [HA2.out, if_neg (fun h => hae h.1)])
                clear hae HA2
                have hx7 := h.blk
                have h8 := h.row #[Value.slice none 0 0, Value.slice none 0 0]
                go_wp2_with (refine wpList_store_row rfl _ _ _ rfl rb #[Value.slice none 0 0, Value.slice none 0 0] rfl rfl 35 _ hx7 (by kernel_rfl) rfl (by simp [Value.oneCell']) ?_)
                refine bodyPost_ret_by (results_pair rfl _ _ rb 35 _ (0, 0) _ rfl h8.blk Try.underlying35 rfl (by kernel_rfl)) rfl ?_
                rw [HR.out]
                first
                  | exact ⟨⟨none, none, 0, 0, 0, 0, ⟨[], []⟩, rfl, rfl, rfl, rfl, Nat.le_refl _, Nat.le_refl _, PRow.empty _ _ _⟩, h8.ends⟩
                  | exact ⟨⟨none, none, 0, 0, 0, 0, rfl, rfl, rfl, Nat.le_refl _, Nat.le_refl _, PRow.empty _ _ _⟩, h8.ends⟩
end Go.Proofs.Ytklkboibpglhjaa
