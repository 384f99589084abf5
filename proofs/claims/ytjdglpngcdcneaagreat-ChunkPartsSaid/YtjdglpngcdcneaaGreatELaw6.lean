/- Layer 21's laws: ChunkParts. -/
import Derived.Test.YtjdglpngcdcneaaGreatERs3
import Derived.Test.YtjdglpngcdcneaaGreatEParts
namespace Go.Proofs.YtjdglpngcdcneaaGreat
open Go.RowKit Go.WideShapes
set_option linter.unusedVariables false
set_option linter.unusedSimpArgs false
set_option linter.unusedSectionVars false
theorem evsV_append (l m : List Ev) : evsV (l ++ m) = evsV l ++ evsV m := by simp [evsV]
theorem evA_one5 (a b c : Int) (d e : Nat) : ∀ u ∈ (#[.int .i64 a, .int .i64 b, .int .i64 c, .int .u64 d, .int .u64 e] : Array Value).toList, u.oneCell' = true := by
  intro u hu
  simp at hu
  rcases hu with rfl | rfl | rfl | rfl | rfl <;> rfl
/-- five cells of a block -/
def Five (w : World) (g : Nat) (a b c : Int) (d e : Nat) : Prop := w.cell? ⟨g, 0, none⟩ = some (.int .i64 a) ∧ w.cell? ⟨g, 1, none⟩ = some (.int .i64 b) ∧ w.cell? ⟨g, 2, none⟩ = some (.int .i64 c) ∧ w.cell? ⟨g, 3, none⟩ = some (.int .u64 (d : Nat)) ∧ w.cell? ⟨g, 4, none⟩ = some (.int .u64 (e : Nat))
theorem five_blk {S : Nat → Prop} {W w : World} {M : List Thing} {g : Nat} {a b c : Int} {d e : Nat} {t : TypeId} (h : St S W w (blkT g #[.int .i64 a, .int .i64 b, .int .i64 c, .int .u64 d, .int .u64 e] t :: M)) : Five w g a b c d e :=
  ⟨cell_of_heap h.blk 0, cell_of_heap h.blk 1, cell_of_heap h.blk 2, cell_of_heap h.blk 3, cell_of_heap h.blk 4⟩
theorem Five.ext {w w' : World} {g : Nat} {a b c : Int} {d e : Nat} (h : Five w g a b c d e) (x : Ext w w') : Five w' g a b c d e := ⟨x.cell h.1, x.cell h.2.1, x.cell h.2.2.1, x.cell h.2.2.2.1, x.cell h.2.2.2.2⟩
theorem step_store_blk {P : Program} {ops : Array Oper} {o : Oper} {a : Act} {w : World} {K : Act → World → Prop} {Q : Exit → Act → World → Prop} {E : Prop} (hgd : o.guard = none) (ty : TypeId) (x y : Operand) (ho : o.op = .store ty x y)
    (g : Nat) (cells : Array Value) (hx : a.eval x = .pointer (some ⟨g, 0, none⟩)) (hy : a.eval y = .agg cells)
    (t : TypeId) (old : Array Value) (hg : w.heap[g]? = some (.cells old t (0, 0))) (hi : (P.info? ty).map (·.size) = some cells.size)
    (hold : old.size = cells.size) (h1 : cells.all (·.oneCell') = true) (hd : o.dst = none) (hK : K a (w.setRow g cells)) :
    if Region.wanted o (yielded ops a.tmps) = true then Oper.wp P o a w K Q else E := by
  have hw : Region.wanted o (yielded ops a.tmps) = true := by simp [Region.wanted, hgd]
  rw [if_pos hw]
  exact wp_store_row ty x y ho g cells hx hy t old hg hi hold h1 (by rw [hd]; exact hK)
theorem blk_cells {S : Nat → Prop} {W w : World} {M : List Thing} {g : Nat} {c : Array Value} {t : TypeId} (h : St S W w (blkT g c t :: M)) : ∀ (j : Nat) (u : Value), c.toList[j]? = some u → w.cell? ((⟨g, 0, none⟩ : Addr).add j) = some u := fun j u hj => by
  rw [add_plain, Nat.zero_add, cell_of_heap h.blk]; simpa using hj
theorem two_right (la lb : List Ev) (n m : Nat) (hn : la.length = n) (hm : lb.length = m) (ha : ∀ x, x < n → rightE (la.getD x default)) (hb : ∀ x, x < m → rightE (lb.getD x default)) (hl : n + m ≤ 100) : checkE (la ++ lb) = (0, 0) := by
  rw [check_ok, List.length_append]
  refine ⟨by omega, fun x hx => ?_⟩
  by_cases h : x < n
  · rw [two_get la lb x (by omega)]; exact ha x h
  · rw [List.getD_eq_getElem?_getD, List.getElem?_append_right (by omega), ← List.getD_eq_getElem?_getD]
    exact hb _ (by omega)
theorem two_vl (la lb : List Ev) (n m : Nat) (hn : la.length = n) (hm : lb.length = m) (ha : ∀ x, x < n → (la.getD x default).vl < 18446744073709551616) (hb : ∀ x, x < m → (lb.getD x default).vl < 18446744073709551616) : ∀ x, x < (la ++ lb).length → ((la ++ lb).getD x default).vl < 18446744073709551616 := by
  intro x hx
  rw [List.length_append] at hx
  by_cases h : x < n
  · rw [two_get la lb x (by omega)]; exact ha x h
  · rw [List.getD_eq_getElem?_getD, List.getElem?_append_right (by omega), ← List.getD_eq_getElem?_getD]
    exact hb _ (by omega)
theorem erow_front {w : World} {A : Option Addr} {la lb : List Ev} (h : ERow w A (la ++ lb)) : ERow w A la := fun x hx => by
  have := h x (by rw [List.length_append]; omega)
  rwa [two_get la lb x hx] at this
/-- a piece of a text -/
theorem piece {s : ByteArray} {F L Z : List UInt8} (h : s = ⟨(F ++ L ++ Z).toArray⟩) {a b : Nat} (ha : F.length = a) (hb : a + L.length = b) : s.extract a b = ⟨L.toArray⟩ := by
  subst h
  apply ByteArray.ext
  rw [ByteArray.data_extract]
  apply Array.ext'
  rw [Array.toList_extract, List.extract_eq_take_drop]
  show ((F ++ L ++ Z).drop a).take (b - a) = L
  rw [List.append_assoc, ← ha, List.drop_left, ← hb, ← ha, Nat.add_sub_cancel_left, List.take_left]
set_option maxRecDepth 20000 in
set_option maxHeartbeats 16000000 in
theorem chunkParts_walk (A : Option Addr) (ca : Nat) (l : List Ev) (B : Option Addr) (cb : Nat) (k : List Ev) (C : Option Addr) (cc : Nat) (q : List Ev) (w : World)
    (ra : ArgRow repEv 5 w A l.length l) (rb : ArgRow repEv 5 w B k.length k) (rc : ArgRow repEv 5 w C q.length q) (hpa : l.length ≤ 140737488351232) (hpb : k.length ≤ 140737488351232) (hpc : q.length ≤ 140737488351232) :
    Calls Tryz.prog 5 #[.slice A l.length ca, .slice B k.length cb, .slice C q.length cc] w fun e w' => e = .returned (.bool true) ∧ Ext w w' := by
  have HA := Lib.hid awake_any
  have hr := ra.erow
  have hs := rb.erow
  have ht := rc.erow
  have hv : ∀ i, i < l.length → (l.getD i default).vl < 18446744073709551616 := fun i hi => (ra.evok i hi).vl
  have hu : ∀ i, i < k.length → (k.getD i default).vl < 18446744073709551616 := fun i hi => (rb.evok i hi).vl
  have hz : ∀ i, i < q.length → (q.getD i default).vl < 18446744073709551616 := fun i hi => (rc.evok i hi).vl
  clear ra rb rc
  obtain ⟨n, hn⟩ : ∃ n, l.length = n := ⟨_, rfl⟩
  obtain ⟨m, hm⟩ : ∃ m, k.length = m := ⟨_, rfl⟩
  obtain ⟨p, hp⟩ : ∃ p, q.length = p := ⟨_, rfl⟩
  rw [hn] at hpa ⊢
  rw [hm] at hpb ⊢
  rw [hp] at hpc ⊢
  by_cases h0 : n + m + p ≤ 100
  rotate_left
  · have h0i : (100 : Int) < (n : Int) + (m : Int) + (p : Int) := by omega
    go_enter Tryz.func5, Tryz.ntmps5
    go_wp2_with fail
    refine (HA.out w).mono ?_
    rintro _ w1 ⟨rfl, x1⟩
    go_wp2_with fail
    refine (HA.out w1).mono ?_
    rintro _ w2 ⟨rfl, x2⟩
    go_wp2_with fail
    go_ret
    exact ⟨rfl, x1.trans x2⟩
  have h0i : ¬ (100 : Int) < (n : Int) + (m : Int) + (p : Int) := by omega
  by_cases h1 : n = 0
  · have h1i : ((n : Int) == 0) = true := by rw [beq_iff_eq]; omega
    go_enter Tryz.func5, Tryz.ntmps5
    go_wp2_with fail
    refine (HA.out w).mono ?_
    rintro _ w1 ⟨rfl, x1⟩
    go_wp2_with fail
    refine (HA.out w1).mono ?_
    rintro _ w2 ⟨rfl, x2⟩
    go_wp2_with fail
    go_ret
    exact ⟨rfl, x1.trans x2⟩
  have h1i : ((n : Int) == 0) = false := by rw [beq_eq_false_iff_ne]; omega
  by_cases h2 : m = p
  rotate_left
  · have h2i : ((m : Int) != (p : Int)) = true := by rw [bne_iff_ne]; omega
    go_enter Tryz.func5, Tryz.ntmps5
    go_wp2_with fail
    refine (HA.out w).mono ?_
    rintro _ w1 ⟨rfl, x1⟩
    go_wp2_with fail
    refine (HA.out w1).mono ?_
    rintro _ w2 ⟨rfl, x2⟩
    go_wp2_with fail
    go_ret
    exact ⟨rfl, x1.trans x2⟩
  subst h2
  have HN := Lib.hid hn
  have HM := Lib.hid hm
  have HP := Lib.hid hp
  have HRt := Lib.hid (fun w (e : Ev) => rright_any w e)
  obtain ⟨la, hla⟩ : ∃ la, l.map (withTh 0) = la := ⟨_, rfl⟩
  have HLA : Hid (la.length = n) := Lib.hid (by rw [← hla, List.length_map]; exact hn)
  have HGA : Hid (∀ i, i < n → la.take (i + 1) = la.take i ++ [withTh 0 (l.getD i default)]) := Lib.hid (fun i hi => by
    rw [List.take_succ_eq_append_getElem (by rw [HLA.out]; exact hi)]
    congr 2
    subst hla
    rw [List.getElem_map, List.getD_eq_getElem?_getD, List.getElem?_eq_getElem (by omega)]
    rfl)
  go_enter Tryz.func5, Tryz.ntmps5
  go_wp2_with fail
  refine (HA.out w).mono ?_
  rintro _ w1 ⟨rfl, x1⟩
  have h3 := (((St.start noB w).ext x1).nilOwn 36 5).nilOwn 36 5
  have HR0 : Hid (∀ j, j < 0 → rightE (withTh 0 (l.getD j default))) := Lib.hid (fun j hj => absurd hj (by omega))
  clear hn hm hp x1
  go_wp2_with fail
  go_loopw [7, 8, 49] (fun v7 v8 v49 wr => ∃ (i : Nat) (u0 u1 : Value), i ≤ n ∧ v7 = u0 ∧ v8 = u1 ∧ v49 = .int .i64 i ∧ Hid (∀ j, j < i → rightE (withTh 0 (l.getD j default))) ∧ St noB w wr [ownT 36 5 u0 i (evsV (la.take i)), ownT 36 5 u1 i (evsV (la.take i))]) (fun _ _ v49 _ => n - (intOf v49).toNat)
  case atStart => exact ⟨0, _, _, by omega, rfl, rfl, rfl, HR0, h3⟩
  case round =>
    clear h3 HR0
    obtain ⟨i, u0, u1, hi, rfl, rfl, rfl, HR, h⟩ := hrel
    obtain ⟨A1, c1, rfl⟩ := h.own.form
    obtain ⟨A2, c2, rfl⟩ := (h.pull 1).own.form
    by_cases hlt : i < n
    · have hlti : (i : Int) < (n : Int) := by omega
      have hl0 : (0 : Int) ≤ (i : Int) := by omega
      have hil : i < l.length := by rw [HN.out]; exact hlt
      obtain ⟨b, off, rfl, c0, c1', c2', c3, c4⟩ := (hr.ext h.ends) i hil
      have HTA := Lib.hid (HGA.out i hlt)
      have HR2 : Hid (rightE (withTh 0 (l.getD i default)) → ∀ j, j < i + 1 → rightE (withTh 0 (l.getD j default))) := Lib.hid (fun c j hj => by
        by_cases e : j = i
        · rw [e]; exact c
        · exact HR.out j (by omega))
      generalize l.getD i default = ev at *
      obtain ⟨th, kd, rg, tk, vl⟩ := ev
      dsimp only at c0 c1' c2' c3 c4
      have HRt1 := Lib.hid (fun w => HRt.out w ⟨0, kd, rg, tk, vl⟩)
      dsimp only [evV] at HRt1
      have h5 := h.alloc #[.int .i64 0, .int .i64 kd, .int .i64 rg, .int .u64 tk, .int .u64 vl] 36
      go_wp2_with fail
      generalize wr.alloc (.cells #[.int .i64 0, .int .i64 kd, .int .i64 rg, .int .u64 tk, .int .u64 vl] 36) = w5 at h5 ⊢
      generalize wr.heap.size = g at h5 ⊢
      refine (HRt1.out w5).mono ?_
      rintro _ w6 ⟨rfl, x6⟩
      have h6 := h5.ext x6
      clear h5 x6 h c0 c1' c2' c3 c4 HRt1
      by_cases hrt : rightE ⟨0, kd, rg, tk, vl⟩
      rotate_left
      · rw [decide_eq_false hrt]
        have hx := h6.ends
        clear hrt
        go_wp2_with fail
        go_ret
        exact ⟨rfl, hx⟩
      · rw [decide_eq_true hrt]
        have HR3 := Lib.hid (HR2.out hrt)
        clear hrt HR2 HR
        go_wp2_with fail
        have h7 := h6.ext (Mut.refl noB w6).drew
        have hS : (fun w' : World => Five w' g 0 kd rg tk vl) w6.drew := five_blk h7
        refine wp_region_held (S := fun w' : World => Five w' g 0 kd rg tk vl) (by kernel_rfl) ?_
        change wpAnyH _ _ _ _ _ _ _ _ (World.drew _)
        refine wpAnyH_take (i := 0) (v := ?_) rfl (by kernel_rfl) (by kernel_rfl) (by kernel_rfl) (fun _ _ _ h => h) (Or.inl ⟨by rfl, ?_⟩) hS ?_
        rotate_left
        · (intro w' hS'; obtain ⟨j0, j1, j2, j3, j4⟩ := hS'; go_simp; try with_reducible rfl)
        refine wpAnyH_take (i := 1) (v := ?_) rfl (by kernel_rfl) (by kernel_rfl) (by kernel_rfl) (fun _ _ _ h => h) (Or.inl ⟨by rfl, ?_⟩) hS ?_
        rotate_left
        · (intro w' hS'; obtain ⟨j0, j1, j2, j3, j4⟩ := hS'; go_simp; try with_reducible rfl)
        refine wpAnyH_take (i := 4) (v := ?_) rfl (by kernel_rfl) (by kernel_rfl) (by kernel_rfl) (fun _ _ _ h => h) (Or.inl ⟨by rfl, ?_⟩) hS ?_
        rotate_left
        · (intro w' hS'; obtain ⟨j0, j1, j2, j3, j4⟩ := hS'; go_simp; try with_reducible rfl)
        refine wpAnyH_take (i := 5) (v := ?_) rfl (by kernel_rfl) (by kernel_rfl) (by kernel_rfl) (fun _ _ _ h => h) (Or.inl ⟨by rfl, ?_⟩) hS ?_
        rotate_left
        · (intro w' hS'; obtain ⟨j0, j1, j2, j3, j4⟩ := hS'; go_simp; try with_reducible rfl)
        refine wpAnyH_ready (rs := [2, 6]) (by kernel_rfl) (by simp) ?_
        refine AllReadyH.cons rfl (fun K hK => ?_) (AllReadyH.cons rfl (fun K hK => ?_) AllReadyH.nil)
        · go_simp
          have h8 := h7.alloc #[.int .i64 0, .int .i64 kd, .int .i64 rg, .int .u64 tk, .int .u64 vl] 36
          refine hK.out _ _ (five_blk (h8.pull 1)) (fun _ => ?_)
          clear hK K
          refine wpAnyH_ready (rs := [3, 6]) (by kernel_rfl) (by simp) ?_
          refine AllReadyH.cons rfl (fun K hK => ?_) (AllReadyH.cons rfl (fun K hK => ?_) AllReadyH.nil)
          · refine step_pushAll rfl _ _ _ rfl 36 (.agg #[.int .i64 0, .int .i64 0, .int .i64 0, .int .u64 0, .int .u64 0]) 5 40 Tryz.underlying22 ev_info rfl (by decide) (h8.pull 2) _ 1 1 #[.int .i64 0, .int .i64 kd, .int .i64 rg, .int .u64 tk, .int .u64 vl].toList rfl rfl rfl (blk_cells (h8)) (evA_one5 _ _ _ _ _) (by unfold maxLen; omega) (by omega) ?_
            intro A3 d3 w8 h9
            have hS := (five_blk (h9.pull 2))
            refine hK.out _ _ hS (fun _ => ?_)
            clear hK K
            refine wpAnyH_ready (rs := [6]) (by kernel_rfl) (by simp) ?_
            refine AllReadyH.cons rfl (fun K hK => ?_) AllReadyH.nil
            go_simp
            have h10 := h9.alloc #[.int .i64 0, .int .i64 kd, .int .i64 rg, .int .u64 tk, .int .u64 vl] 36
            refine hK.out _ _ (five_blk (h10.pull 3)) (fun _ => ?_)
            clear hK K
            refine wpAnyH_ready (rs := [7]) (by kernel_rfl) (by simp) ?_
            refine AllReadyH.cons rfl (fun K hK => ?_) AllReadyH.nil
            refine step_pushAll rfl _ _ _ rfl 36 (.agg #[.int .i64 0, .int .i64 0, .int .i64 0, .int .u64 0, .int .u64 0]) 5 40 Tryz.underlying22 ev_info rfl (by decide) (h10.pull 4) _ 1 1 #[.int .i64 0, .int .i64 kd, .int .i64 rg, .int .u64 tk, .int .u64 vl].toList rfl rfl rfl (blk_cells (h10)) (evA_one5 _ _ _ _ _) (by unfold maxLen; omega) (by omega) ?_
            intro A4 d4 w9 h11
            have hS := (five_blk (h11.pull 4))
            refine hK.out _ _ hS (fun _ => ?_)
            clear hK K
            refine wpAnyH_take (i := 8) (v := ?_) rfl (by kernel_rfl) (by kernel_rfl) (by kernel_rfl) (fun _ _ _ h => h) (Or.inl ⟨by rfl, ?_⟩) hS ?_
            rotate_left
            · (intro w' hS'; obtain ⟨j0, j1, j2, j3, j4⟩ := hS'; go_simp; try with_reducible rfl)
            refine wpAnyH_take (i := 9) (v := ?_) rfl (by kernel_rfl) (by kernel_rfl) (by kernel_rfl) (fun _ _ _ h => h) (Or.inl ⟨by rfl, ?_⟩) hS ?_
            rotate_left
            · (intro w' hS'; obtain ⟨j0, j1, j2, j3, j4⟩ := hS'; go_simp; try with_reducible rfl)
            refine wpAnyH_done (by kernel_rfl) ?_ _
            have h12 := (h11.pull 1).drop.swap
            have h13 := ((((h12).pull 2).drop).pull 2).drop
            have h14 : St noB w w9 [ownT 36 5 (.slice A3 (i + 1) d3) (i + 1) (evsV (la.take (i + 1))), ownT 36 5 (.slice A4 (i + 1) d4) (i + 1) (evsV (la.take (i + 1)))] := by
              rw [HTA.out, evsV_append]; exact h13
            clear h13 h12 h11 hS
            go_wp2_with fail
            exact ⟨⟨i + 1, _, _, by omega, rfl, rfl, by go_num, HR3, h14⟩, by simp only [intOf]; omega⟩
          · go_simp
            have h9 := h8.alloc #[.int .i64 0, .int .i64 kd, .int .i64 rg, .int .u64 tk, .int .u64 vl] 36
            rw [World.size_alloc] at h9
            refine hK.out _ _ (five_blk (h9.pull 2)) (fun _ => ?_)
            clear hK K
            refine wpAnyH_ready (rs := [3]) (by kernel_rfl) (by simp) ?_
            refine AllReadyH.cons rfl (fun K hK => ?_) AllReadyH.nil
            refine step_pushAll rfl _ _ _ rfl 36 (.agg #[.int .i64 0, .int .i64 0, .int .i64 0, .int .u64 0, .int .u64 0]) 5 40 Tryz.underlying22 ev_info rfl (by decide) (h9.pull 3) _ 1 1 #[.int .i64 0, .int .i64 kd, .int .i64 rg, .int .u64 tk, .int .u64 vl].toList rfl rfl rfl (blk_cells (h9.pull 1)) (evA_one5 _ _ _ _ _) (by unfold maxLen; omega) (by omega) ?_
            intro A3 d3 w8 h10
            have hS := (five_blk (h10.pull 3))
            refine hK.out _ _ hS (fun _ => ?_)
            clear hK K
            refine wpAnyH_ready (rs := [7]) (by kernel_rfl) (by simp) ?_
            refine AllReadyH.cons rfl (fun K hK => ?_) AllReadyH.nil
            refine step_pushAll rfl _ _ _ rfl 36 (.agg #[.int .i64 0, .int .i64 0, .int .i64 0, .int .u64 0, .int .u64 0]) 5 40 Tryz.underlying22 ev_info rfl (by decide) (h10.pull 4) _ 1 1 #[.int .i64 0, .int .i64 kd, .int .i64 rg, .int .u64 tk, .int .u64 vl].toList rfl rfl rfl (blk_cells (h10.pull 1)) (evA_one5 _ _ _ _ _) (by unfold maxLen; omega) (by omega) ?_
            intro A4 d4 w9 h11
            have hS := (five_blk (h11.pull 4))
            refine hK.out _ _ hS (fun _ => ?_)
            clear hK K
            refine wpAnyH_take (i := 8) (v := ?_) rfl (by kernel_rfl) (by kernel_rfl) (by kernel_rfl) (fun _ _ _ h => h) (Or.inl ⟨by rfl, ?_⟩) hS ?_
            rotate_left
            · (intro w' hS'; obtain ⟨j0, j1, j2, j3, j4⟩ := hS'; go_simp; try with_reducible rfl)
            refine wpAnyH_take (i := 9) (v := ?_) rfl (by kernel_rfl) (by kernel_rfl) (by kernel_rfl) (fun _ _ _ h => h) (Or.inl ⟨by rfl, ?_⟩) hS ?_
            rotate_left
            · (intro w' hS'; obtain ⟨j0, j1, j2, j3, j4⟩ := hS'; go_simp; try with_reducible rfl)
            refine wpAnyH_done (by kernel_rfl) ?_ _
            have h12 := h11.swap
            have h13 := ((((((h12).pull 2).drop).pull 2).drop).pull 2).drop
            have h14 : St noB w w9 [ownT 36 5 (.slice A3 (i + 1) d3) (i + 1) (evsV (la.take (i + 1))), ownT 36 5 (.slice A4 (i + 1) d4) (i + 1) (evsV (la.take (i + 1)))] := by
              rw [HTA.out, evsV_append]; exact h13
            clear h13 h12 h11 hS
            go_wp2_with fail
            exact ⟨⟨i + 1, _, _, by omega, rfl, rfl, by go_num, HR3, h14⟩, by simp only [intOf]; omega⟩
        · go_simp
          have h8 := h7.alloc #[.int .i64 0, .int .i64 kd, .int .i64 rg, .int .u64 tk, .int .u64 vl] 36
          refine hK.out _ _ (five_blk (h8.pull 1)) (fun _ => ?_)
          clear hK K
          refine wpAnyH_ready (rs := [2]) (by kernel_rfl) (by simp) ?_
          refine AllReadyH.cons rfl (fun K hK => ?_) AllReadyH.nil
          go_simp
          have h9 := h8.alloc #[.int .i64 0, .int .i64 kd, .int .i64 rg, .int .u64 tk, .int .u64 vl] 36
          rw [World.size_alloc] at h9
          refine hK.out _ _ (five_blk (h9.pull 2)) (fun _ => ?_)
          clear hK K
          refine wpAnyH_ready (rs := [3]) (by kernel_rfl) (by simp) ?_
          refine AllReadyH.cons rfl (fun K hK => ?_) AllReadyH.nil
          refine step_pushAll rfl _ _ _ rfl 36 (.agg #[.int .i64 0, .int .i64 0, .int .i64 0, .int .u64 0, .int .u64 0]) 5 40 Tryz.underlying22 ev_info rfl (by decide) (h9.pull 3) _ 1 1 #[.int .i64 0, .int .i64 kd, .int .i64 rg, .int .u64 tk, .int .u64 vl].toList rfl rfl rfl (blk_cells (h9)) (evA_one5 _ _ _ _ _) (by unfold maxLen; omega) (by omega) ?_
          intro A3 d3 w8 h10
          have hS := (five_blk (h10.pull 3))
          refine hK.out _ _ hS (fun _ => ?_)
          clear hK K
          refine wpAnyH_ready (rs := [7]) (by kernel_rfl) (by simp) ?_
          refine AllReadyH.cons rfl (fun K hK => ?_) AllReadyH.nil
          refine step_pushAll rfl _ _ _ rfl 36 (.agg #[.int .i64 0, .int .i64 0, .int .i64 0, .int .u64 0, .int .u64 0]) 5 40 Tryz.underlying22 ev_info rfl (by decide) (h10.pull 4) _ 1 1 #[.int .i64 0, .int .i64 kd, .int .i64 rg, .int .u64 tk, .int .u64 vl].toList rfl rfl rfl (blk_cells (h10.pull 2)) (evA_one5 _ _ _ _ _) (by unfold maxLen; omega) (by omega) ?_
          intro A4 d4 w9 h11
          have hS := (five_blk (h11.pull 4))
          refine hK.out _ _ hS (fun _ => ?_)
          clear hK K
          refine wpAnyH_take (i := 8) (v := ?_) rfl (by kernel_rfl) (by kernel_rfl) (by kernel_rfl) (fun _ _ _ h => h) (Or.inl ⟨by rfl, ?_⟩) hS ?_
          rotate_left
          · (intro w' hS'; obtain ⟨j0, j1, j2, j3, j4⟩ := hS'; go_simp; try with_reducible rfl)
          refine wpAnyH_take (i := 9) (v := ?_) rfl (by kernel_rfl) (by kernel_rfl) (by kernel_rfl) (fun _ _ _ h => h) (Or.inl ⟨by rfl, ?_⟩) hS ?_
          rotate_left
          · (intro w' hS'; obtain ⟨j0, j1, j2, j3, j4⟩ := hS'; go_simp; try with_reducible rfl)
          refine wpAnyH_done (by kernel_rfl) ?_ _
          have h12 := h11.swap
          have h13 := ((((((h12).pull 2).drop).pull 2).drop).pull 2).drop
          have h14 : St noB w w9 [ownT 36 5 (.slice A3 (i + 1) d3) (i + 1) (evsV (la.take (i + 1))), ownT 36 5 (.slice A4 (i + 1) d4) (i + 1) (evsV (la.take (i + 1)))] := by
            rw [HTA.out, evsV_append]; exact h13
          clear h13 h12 h11 hS
          go_wp2_with fail
          exact ⟨⟨i + 1, _, _, by omega, rfl, rfl, by go_num, HR3, h14⟩, by simp only [intOf]; omega⟩
    · obtain rfl : i = n := by omega
      have hlti : ¬ (i : Int) < (i : Int) := by omega
      rw [List.take_of_length_le (by rw [HLA.out]; exact Nat.le_refl _)] at h
      obtain ⟨lb, hlb⟩ : ∃ lb, k.map (withTh 7) = lb := ⟨_, rfl⟩
      obtain ⟨lc, hlc⟩ : ∃ lc, q.map (withTh 7) = lc := ⟨_, rfl⟩
      have HLB : Hid (lb.length = m) := Lib.hid (by rw [← hlb, List.length_map]; exact HM.out)
      have HLC : Hid (lc.length = m) := Lib.hid (by rw [← hlc, List.length_map]; exact HP.out)
      have HGB : Hid (∀ i, i < m → lb.take (i + 1) = lb.take i ++ [withTh 7 (k.getD i default)]) := Lib.hid (fun i hi => by
        rw [List.take_succ_eq_append_getElem (by rw [HLB.out]; exact hi)]
        congr 2
        have := HM.out
        subst hlb
        rw [List.getElem_map, List.getD_eq_getElem?_getD, List.getElem?_eq_getElem (by omega)]
        rfl)
      have HGC : Hid (∀ i, i < m → lc.take (i + 1) = lc.take i ++ [withTh 7 (q.getD i default)]) := Lib.hid (fun i hi => by
        rw [List.take_succ_eq_append_getElem (by rw [HLC.out]; exact hi)]
        congr 2
        have := HP.out
        subst hlc
        rw [List.getElem_map, List.getD_eq_getElem?_getD, List.getElem?_eq_getElem (by omega)]
        rfl)
      have HRA := HR
      clear HGA HR
      have HR0 : Hid (∀ j, j < 0 → rightE (withTh 7 (k.getD j default)) ∧ rightE (withTh 7 (q.getD j default))) := Lib.hid (fun j hj => absurd hj (by omega))
      have h3 : St noB w wr [ownT 36 5 (.slice A1 (i + 0) c1) (i + 0) (evsV (la ++ lb.take 0)), ownT 36 5 (.slice A2 (i + 0) c2) (i + 0) (evsV (la ++ lc.take 0))] := by
        rw [List.take_zero, List.take_zero, List.append_nil, Nat.add_zero]; exact h
      clear h
      go_wp2_with fail
      go_loopw [7, 8, 68] (fun v7 v8 v68 wr => ∃ (j : Nat) (u0 u1 : Value), j ≤ m ∧ v7 = u0 ∧ v8 = u1 ∧ v68 = .int .i64 j ∧ Hid (∀ x, x < j → rightE (withTh 7 (k.getD x default)) ∧ rightE (withTh 7 (q.getD x default))) ∧ St noB w wr [ownT 36 5 u0 (i + j) (evsV (la ++ lb.take j)), ownT 36 5 u1 (i + j) (evsV (la ++ lc.take j))]) (fun _ _ v68 _ => m - (intOf v68).toNat)
      case atStart => exact ⟨0, _, _, by omega, rfl, rfl, rfl, HR0, h3⟩
      case round =>
        clear h3 HR0
        obtain ⟨j, u0, u1, hj, rfl, rfl, rfl, HR, h⟩ := hrel
        obtain ⟨A1, c1, rfl⟩ := h.own.form
        obtain ⟨A2, c2, rfl⟩ := (h.pull 1).own.form
        by_cases hlt : j < m
        · have hltj : (j : Int) < (m : Int) := by omega
          have hj0 : (0 : Int) ≤ (j : Int) := by omega
          obtain ⟨b, off, rfl, c0, c1', c2', c3, c4⟩ := hs j (by rw [HM.out]; exact hlt)
          obtain ⟨b2, off2, rfl, d0, d1, d2, d3, d4⟩ := ht j (by rw [HP.out]; exact hlt)
          have HTB := Lib.hid (HGB.out j hlt)
          have HTC := Lib.hid (HGC.out j hlt)
          have HR2 : Hid (rightE (withTh 7 (k.getD j default)) → rightE (withTh 7 (q.getD j default)) → ∀ x, x < j + 1 → rightE (withTh 7 (k.getD x default)) ∧ rightE (withTh 7 (q.getD x default))) := Lib.hid (fun c d x hx => by
            by_cases e : x = j
            · rw [e]; exact ⟨c, d⟩
            · exact HR.out x (by omega))
          generalize k.getD j default = ev at *
          generalize q.getD j default = ew at *
          obtain ⟨th, kd, rg, tk, vl⟩ := ev
          obtain ⟨th2, kd2, rg2, tk2, vl2⟩ := ew
          dsimp only at c0 c1' c2' c3 c4 d0 d1 d2 d3 d4
          have HRt1 := Lib.hid (fun w => HRt.out w ⟨7, kd, rg, tk, vl⟩)
          have HRt2 := Lib.hid (fun w => HRt.out w ⟨7, kd2, rg2, tk2, vl2⟩)
          dsimp only [evV] at HRt1 HRt2
          go_wp2_with fail
          have h4 := h.ext (Mut.refl noB wr).drew
          have hS : (fun w' : World => Ext w w') wr.drew := h4.ends
          refine wp_region_held (S := fun w' : World => Ext w w') (by kernel_rfl) ?_
          change wpAnyH _ _ _ _ _ _ _ _ (World.drew _)
          refine wpAnyH_take (i := 0) (v := ?_) rfl (by kernel_rfl) (by kernel_rfl) (by kernel_rfl) (fun _ _ _ h => h) (Or.inl ⟨by rfl, ?_⟩) hS ?_
          rotate_left
          · (intro w' hS'; have j0 := Ext.cell hS' c0; have j1 := Ext.cell hS' c1'; have j2 := Ext.cell hS' c2'; have j3 := Ext.cell hS' c3; have j4 := Ext.cell hS' c4; have i0 := Ext.cell hS' d0; have i1 := Ext.cell hS' d1; have i2 := Ext.cell hS' d2; have i3 := Ext.cell hS' d3; have i4 := Ext.cell hS' d4; go_simp; try with_reducible rfl)
          refine wpAnyH_take (i := 1) (v := ?_) rfl (by kernel_rfl) (by kernel_rfl) (by kernel_rfl) (fun _ _ _ h => h) (Or.inl ⟨by rfl, ?_⟩) hS ?_
          rotate_left
          · (intro w' hS'; have j0 := Ext.cell hS' c0; have j1 := Ext.cell hS' c1'; have j2 := Ext.cell hS' c2'; have j3 := Ext.cell hS' c3; have j4 := Ext.cell hS' c4; have i0 := Ext.cell hS' d0; have i1 := Ext.cell hS' d1; have i2 := Ext.cell hS' d2; have i3 := Ext.cell hS' d3; have i4 := Ext.cell hS' d4; go_simp; try with_reducible rfl)
          refine wpAnyH_take (i := 2) (v := ?_) rfl (by kernel_rfl) (by kernel_rfl) (by kernel_rfl) (fun _ _ _ h => h) (Or.inl ⟨by rfl, ?_⟩) hS ?_
          rotate_left
          · (intro w' hS'; have j0 := Ext.cell hS' c0; have j1 := Ext.cell hS' c1'; have j2 := Ext.cell hS' c2'; have j3 := Ext.cell hS' c3; have j4 := Ext.cell hS' c4; have i0 := Ext.cell hS' d0; have i1 := Ext.cell hS' d1; have i2 := Ext.cell hS' d2; have i3 := Ext.cell hS' d3; have i4 := Ext.cell hS' d4; go_simp; try with_reducible rfl)
          refine wpAnyH_take (i := 3) (v := ?_) rfl (by kernel_rfl) (by kernel_rfl) (by kernel_rfl) (fun _ _ _ h => h) (Or.inl ⟨by rfl, ?_⟩) hS ?_
          rotate_left
          · (intro w' hS'; have j0 := Ext.cell hS' c0; have j1 := Ext.cell hS' c1'; have j2 := Ext.cell hS' c2'; have j3 := Ext.cell hS' c3; have j4 := Ext.cell hS' c4; have i0 := Ext.cell hS' d0; have i1 := Ext.cell hS' d1; have i2 := Ext.cell hS' d2; have i3 := Ext.cell hS' d3; have i4 := Ext.cell hS' d4; go_simp; try with_reducible rfl)
          refine wpAnyH_take (i := 4) (v := ?_) rfl (by kernel_rfl) (by kernel_rfl) (by kernel_rfl) (fun _ _ _ h => h) (Or.inl ⟨by rfl, ?_⟩) hS ?_
          rotate_left
          · (intro w' hS'; have j0 := Ext.cell hS' c0; have j1 := Ext.cell hS' c1'; have j2 := Ext.cell hS' c2'; have j3 := Ext.cell hS' c3; have j4 := Ext.cell hS' c4; have i0 := Ext.cell hS' d0; have i1 := Ext.cell hS' d1; have i2 := Ext.cell hS' d2; have i3 := Ext.cell hS' d3; have i4 := Ext.cell hS' d4; go_simp; try with_reducible rfl)
          refine wpAnyH_take (i := 5) (v := ?_) rfl (by kernel_rfl) (by kernel_rfl) (by kernel_rfl) (fun _ _ _ h => h) (Or.inl ⟨by rfl, ?_⟩) hS ?_
          rotate_left
          · (intro w' hS'; have j0 := Ext.cell hS' c0; have j1 := Ext.cell hS' c1'; have j2 := Ext.cell hS' c2'; have j3 := Ext.cell hS' c3; have j4 := Ext.cell hS' c4; have i0 := Ext.cell hS' d0; have i1 := Ext.cell hS' d1; have i2 := Ext.cell hS' d2; have i3 := Ext.cell hS' d3; have i4 := Ext.cell hS' d4; go_simp; try with_reducible rfl)
          refine wpAnyH_take (i := 6) (v := ?_) rfl (by kernel_rfl) (by kernel_rfl) (by kernel_rfl) (fun _ _ _ h => h) (Or.inl ⟨by rfl, ?_⟩) hS ?_
          rotate_left
          · (intro w' hS'; have j0 := Ext.cell hS' c0; have j1 := Ext.cell hS' c1'; have j2 := Ext.cell hS' c2'; have j3 := Ext.cell hS' c3; have j4 := Ext.cell hS' c4; have i0 := Ext.cell hS' d0; have i1 := Ext.cell hS' d1; have i2 := Ext.cell hS' d2; have i3 := Ext.cell hS' d3; have i4 := Ext.cell hS' d4; go_simp; try with_reducible rfl)
          refine wpAnyH_take (i := 7) (v := ?_) rfl (by kernel_rfl) (by kernel_rfl) (by kernel_rfl) (fun _ _ _ h => h) (Or.inl ⟨by rfl, ?_⟩) hS ?_
          rotate_left
          · (intro w' hS'; have j0 := Ext.cell hS' c0; have j1 := Ext.cell hS' c1'; have j2 := Ext.cell hS' c2'; have j3 := Ext.cell hS' c3; have j4 := Ext.cell hS' c4; have i0 := Ext.cell hS' d0; have i1 := Ext.cell hS' d1; have i2 := Ext.cell hS' d2; have i3 := Ext.cell hS' d3; have i4 := Ext.cell hS' d4; go_simp; try with_reducible rfl)
          refine wpAnyH_ready (rs := [8, 9]) (by kernel_rfl) (by simp) ?_
          refine AllReadyH.cons rfl (fun K hK => ?_) (AllReadyH.cons rfl (fun K hK => ?_) AllReadyH.nil)
          · go_simp
            have h5 := h4.alloc #[.int .i64 0, .int .i64 0, .int .i64 0, .int .u64 0, .int .u64 0] 36
            refine hK.out _ _ h5.ends (fun _ => ?_)
            clear hK K
            refine wpAnyH_ready (rs := [9]) (by kernel_rfl) (by simp) ?_
            refine AllReadyH.cons rfl (fun K hK => ?_) AllReadyH.nil
            go_simp
            have h6 := h5.alloc #[.int .i64 0, .int .i64 0, .int .i64 0, .int .u64 0, .int .u64 0] 36
            rw [World.size_alloc] at h6
            refine hK.out _ _ h6.ends (fun _ => ?_)
            clear hK K
            have h7 := h6.swap
            refine wpAnyH_ready (rs := [10]) (by kernel_rfl) (by simp) ?_
            refine AllReadyH.cons rfl (fun K hK => ?_) AllReadyH.nil
            refine step_store_blk rfl _ _ _ rfl _ #[.int .i64 th, .int .i64 kd, .int .i64 rg, .int .u64 tk, .int .u64 vl] rfl rfl 36 #[.int .i64 0, .int .i64 0, .int .i64 0, .int .u64 0, .int .u64 0] h7.blk ev_size rfl (by simp [Value.oneCell']) rfl ?_
            have h8 := h7.row #[.int .i64 th, .int .i64 kd, .int .i64 rg, .int .u64 tk, .int .u64 vl]
            refine hK.out _ _ h8.ends (fun _ => ?_)
            clear hK K
            refine wpAnyH_ready (rs := [11]) (by kernel_rfl) (by simp) ?_
            refine AllReadyH.cons rfl (fun K hK => ?_) AllReadyH.nil
            refine step_store_blk rfl _ _ _ rfl _ #[.int .i64 th2, .int .i64 kd2, .int .i64 rg2, .int .u64 tk2, .int .u64 vl2] rfl rfl 36 #[.int .i64 0, .int .i64 0, .int .i64 0, .int .u64 0, .int .u64 0] (h8.pull 1).blk ev_size rfl (by simp [Value.oneCell']) rfl ?_
            have h9 := ((h8.pull 1).row #[.int .i64 th2, .int .i64 kd2, .int .i64 rg2, .int .u64 tk2, .int .u64 vl2]).swap
            refine hK.out _ _ h9.ends (fun _ => ?_)
            clear hK K
            refine wpAnyH_done (by kernel_rfl) ?_ _
            change Exit.then _ _ _ _ ((((wr.drew.alloc (.cells #[.int .i64 0, .int .i64 0, .int .i64 0, .int .u64 0, .int .u64 0] 36)).alloc (.cells #[.int .i64 0, .int .i64 0, .int .i64 0, .int .u64 0, .int .u64 0] 36)).setRow wr.heap.size #[.int .i64 th, .int .i64 kd, .int .i64 rg, .int .u64 tk, .int .u64 vl]).setRow (wr.heap.size + 1) #[.int .i64 th2, .int .i64 kd2, .int .i64 rg2, .int .u64 tk2, .int .u64 vl2])
            have h10 : St noB w ((((wr.drew.alloc (.cells #[.int .i64 0, .int .i64 0, .int .i64 0, .int .u64 0, .int .u64 0] 36)).alloc (.cells #[.int .i64 0, .int .i64 0, .int .i64 0, .int .u64 0, .int .u64 0] 36)).setRow wr.heap.size #[.int .i64 th, .int .i64 kd, .int .i64 rg, .int .u64 tk, .int .u64 vl]).setRow (wr.heap.size + 1) #[.int .i64 th2, .int .i64 kd2, .int .i64 rg2, .int .u64 tk2, .int .u64 vl2]) [blkT wr.heap.size #[.int .i64 th, .int .i64 kd, .int .i64 rg, .int .u64 tk, .int .u64 vl] 36, blkT (wr.heap.size + 1) #[.int .i64 th2, .int .i64 kd2, .int .i64 rg2, .int .u64 tk2, .int .u64 vl2] 36, ownT 36 5 (.slice A1 (i + j) c1) (i + j) (evsV (la ++ lb.take j)), ownT 36 5 (.slice A2 (i + j) c2) (i + j) (evsV (la ++ lc.take j))] := h9
            clear hS h9 h8 h7 h5 h4
            generalize ((((wr.drew.alloc (.cells #[.int .i64 0, .int .i64 0, .int .i64 0, .int .u64 0, .int .u64 0] 36)).alloc (.cells #[.int .i64 0, .int .i64 0, .int .i64 0, .int .u64 0, .int .u64 0] 36)).setRow wr.heap.size #[.int .i64 th, .int .i64 kd, .int .i64 rg, .int .u64 tk, .int .u64 vl]).setRow (wr.heap.size + 1) #[.int .i64 th2, .int .i64 kd2, .int .i64 rg2, .int .u64 tk2, .int .u64 vl2]) = w7 at h10 ⊢
            have hne1 : wr.heap.size ≠ (wr.heap.size + 1) := by omega
            have hne2 : (wr.heap.size + 1) ≠ wr.heap.size := by omega
            generalize wr.heap.size + 1 = g13 at h10 hne1 hne2 ⊢
            generalize wr.heap.size = g12 at h10 hne1 hne2 ⊢
            have p0 : _ = some (Value.int .i64 th) := cell_of_heap h10.blk 0
            have p1 := free_of_heap h10.blk 0
            have h11 := h10.set 0 (.int .i64 7)
            have h12 := h11.pull 1
            have p2 : _ = some (Value.int .i64 th2) := cell_of_heap h12.blk 0
            have p3 := free_of_heap h12.blk 0
            have h13 := (h12.set 0 (.int .i64 7)).swap
            change St noB w _ [blkT g12 #[.int .i64 7, .int .i64 kd, .int .i64 rg, .int .u64 tk, .int .u64 vl] 36, blkT g13 #[.int .i64 7, .int .i64 kd2, .int .i64 rg2, .int .u64 tk2, .int .u64 vl2] 36, ownT 36 5 (.slice A1 (i + j) c1) (i + j) (evsV (la ++ lb.take j)), ownT 36 5 (.slice A2 (i + j) c2) (i + j) (evsV (la ++ lc.take j))] at h13
            have q1 := five_blk h13
            have q2 := five_blk (h13.pull 1)
            obtain ⟨m0, m1, m2, m3, m4⟩ := q1
            obtain ⟨n0, n1, n2, n3, n4⟩ := q2
            go_wp2_with fail
            clear p0 p1 p2 p3 h10 h11 h12 m0 m1 m2 m3 m4 n0 n1 n2 n3 n4
            generalize (w7.setCell ⟨g12, 0, none⟩ (.int .i64 7)).setCell ⟨g13, 0, none⟩ (.int .i64 7) = w8 at h13 ⊢
            refine (HRt1.out w8).mono ?_
            rintro _ w9 ⟨rfl, x9⟩
            have h14 := h13.ext x9
            clear h13 x9
            by_cases hr1 : rightE ⟨7, kd, rg, tk, vl⟩
            rotate_left
            · rw [decide_eq_false hr1]
              have hx := h14.ends
              clear hr1
              go_wp2_with fail
              go_ret
              exact ⟨rfl, hx⟩
            rw [decide_eq_true hr1]
            obtain ⟨n0, n1, n2, n3, n4⟩ := five_blk (h14.pull 1)
            go_wp2_with fail
            refine (HRt2.out w9).mono ?_
            rintro _ w10 ⟨rfl, x10⟩
            have h15 := h14.ext x10
            clear h14 x10 n0 n1 n2 n3 n4
            by_cases hr2 : rightE ⟨7, kd2, rg2, tk2, vl2⟩
            rotate_left
            · rw [decide_eq_false hr2]
              have hx := h15.ends
              clear hr1 hr2
              go_wp2_with fail
              go_ret
              exact ⟨rfl, hx⟩
            rw [decide_eq_true hr2]
            have HR3 := Lib.hid (HR2.out hr1 hr2)
            clear hr1 hr2 HR2 HR hne1 hne2 HRt1 HRt2 c0 c1' c2' c3 c4 d0 d1 d2 d3 d4
            go_wp2_with fail
            have h7 := h15.ext (Mut.refl noB w10).drew
            have hS : (fun w' : World => Five w' g12 7 kd rg tk vl ∧ Five w' g13 7 kd2 rg2 tk2 vl2) w10.drew := ⟨five_blk h7, five_blk (h7.pull 1)⟩
            refine wp_region_held (S := fun w' : World => Five w' g12 7 kd rg tk vl ∧ Five w' g13 7 kd2 rg2 tk2 vl2) (by kernel_rfl) ?_
            change wpAnyH _ _ _ _ _ _ _ _ (World.drew _)
            refine wpAnyH_take (i := 0) (v := ?_) rfl (by kernel_rfl) (by kernel_rfl) (by kernel_rfl) (fun _ _ _ h => h) (Or.inl ⟨by rfl, ?_⟩) hS ?_
            rotate_left
            · (intro w' hS'; obtain ⟨⟨j0, j1, j2, j3, j4⟩, i0, i1, i2, i3, i4⟩ := hS'; go_simp; try with_reducible rfl)
            refine wpAnyH_take (i := 1) (v := ?_) rfl (by kernel_rfl) (by kernel_rfl) (by kernel_rfl) (fun _ _ _ h => h) (Or.inl ⟨by rfl, ?_⟩) hS ?_
            rotate_left
            · (intro w' hS'; obtain ⟨⟨j0, j1, j2, j3, j4⟩, i0, i1, i2, i3, i4⟩ := hS'; go_simp; try with_reducible rfl)
            refine wpAnyH_take (i := 4) (v := ?_) rfl (by kernel_rfl) (by kernel_rfl) (by kernel_rfl) (fun _ _ _ h => h) (Or.inl ⟨by rfl, ?_⟩) hS ?_
            rotate_left
            · (intro w' hS'; obtain ⟨⟨j0, j1, j2, j3, j4⟩, i0, i1, i2, i3, i4⟩ := hS'; go_simp; try with_reducible rfl)
            refine wpAnyH_take (i := 5) (v := ?_) rfl (by kernel_rfl) (by kernel_rfl) (by kernel_rfl) (fun _ _ _ h => h) (Or.inl ⟨by rfl, ?_⟩) hS ?_
            rotate_left
            · (intro w' hS'; obtain ⟨⟨j0, j1, j2, j3, j4⟩, i0, i1, i2, i3, i4⟩ := hS'; go_simp; try with_reducible rfl)
            refine wpAnyH_ready (rs := [2, 6]) (by kernel_rfl) (by simp) ?_
            refine AllReadyH.cons rfl (fun K hK => ?_) (AllReadyH.cons rfl (fun K hK => ?_) AllReadyH.nil)
            · go_simp
              have h8 := h7.alloc #[.int .i64 7, .int .i64 kd, .int .i64 rg, .int .u64 tk, .int .u64 vl] 36
              refine hK.out _ _ (And.intro (five_blk (h8.pull 1)) (five_blk (h8.pull 2))) (fun _ => ?_)
              clear hK K
              refine wpAnyH_ready (rs := [3, 6]) (by kernel_rfl) (by simp) ?_
              refine AllReadyH.cons rfl (fun K hK => ?_) (AllReadyH.cons rfl (fun K hK => ?_) AllReadyH.nil)
              · refine step_pushAll rfl _ _ _ rfl 36 (.agg #[.int .i64 0, .int .i64 0, .int .i64 0, .int .u64 0, .int .u64 0]) 5 40 Tryz.underlying22 ev_info rfl (by decide) (h8.pull 3) _ 1 1 #[.int .i64 7, .int .i64 kd, .int .i64 rg, .int .u64 tk, .int .u64 vl].toList rfl rfl rfl (blk_cells (h8)) (evA_one5 _ _ _ _ _) (by unfold maxLen; omega) (by omega) ?_
                intro A3 d3 w8 h9
                have hS := (And.intro (five_blk (h9.pull 2)) (five_blk (h9.pull 3)))
                refine hK.out _ _ hS (fun _ => ?_)
                clear hK K
                refine wpAnyH_ready (rs := [6]) (by kernel_rfl) (by simp) ?_
                refine AllReadyH.cons rfl (fun K hK => ?_) AllReadyH.nil
                go_simp
                have h10 := h9.alloc #[.int .i64 7, .int .i64 kd2, .int .i64 rg2, .int .u64 tk2, .int .u64 vl2] 36
                refine hK.out _ _ (And.intro (five_blk (h10.pull 3)) (five_blk (h10.pull 4))) (fun _ => ?_)
                clear hK K
                refine wpAnyH_ready (rs := [7]) (by kernel_rfl) (by simp) ?_
                refine AllReadyH.cons rfl (fun K hK => ?_) AllReadyH.nil
                refine step_pushAll rfl _ _ _ rfl 36 (.agg #[.int .i64 0, .int .i64 0, .int .i64 0, .int .u64 0, .int .u64 0]) 5 40 Tryz.underlying22 ev_info rfl (by decide) (h10.pull 5) _ 1 1 #[.int .i64 7, .int .i64 kd2, .int .i64 rg2, .int .u64 tk2, .int .u64 vl2].toList rfl rfl rfl (blk_cells (h10)) (evA_one5 _ _ _ _ _) (by unfold maxLen; omega) (by omega) ?_
                intro A4 d4 w9 h11
                have hS := (And.intro (five_blk (h11.pull 4)) (five_blk (h11.pull 5)))
                refine hK.out _ _ hS (fun _ => ?_)
                clear hK K
                refine wpAnyH_take (i := 8) (v := ?_) rfl (by kernel_rfl) (by kernel_rfl) (by kernel_rfl) (fun _ _ _ h => h) (Or.inl ⟨by rfl, ?_⟩) hS ?_
                rotate_left
                · (intro w' hS'; obtain ⟨⟨j0, j1, j2, j3, j4⟩, i0, i1, i2, i3, i4⟩ := hS'; go_simp; try with_reducible rfl)
                refine wpAnyH_take (i := 9) (v := ?_) rfl (by kernel_rfl) (by kernel_rfl) (by kernel_rfl) (fun _ _ _ h => h) (Or.inl ⟨by rfl, ?_⟩) hS ?_
                rotate_left
                · (intro w' hS'; obtain ⟨⟨j0, j1, j2, j3, j4⟩, i0, i1, i2, i3, i4⟩ := hS'; go_simp; try with_reducible rfl)
                refine wpAnyH_done (by kernel_rfl) ?_ _
                have h12 := (h11.pull 1).drop.swap
                have h13 := ((((((h12).pull 2).drop).pull 2).drop).pull 2).drop
                have h16 : St noB w w9 [ownT 36 5 (.slice A3 (i + j + 1) d3) (i + (j + 1)) (evsV (la ++ lb.take (j + 1))), ownT 36 5 (.slice A4 (i + j + 1) d4) (i + (j + 1)) (evsV (la ++ lc.take (j + 1)))] := by
                  rw [show evsV (la ++ lb.take (j + 1)) = evsV (la ++ lb.take j) ++ evsV [withTh 7 ⟨th, kd, rg, tk, vl⟩] by rw [HTB.out, ← List.append_assoc, evsV_append], show evsV (la ++ lc.take (j + 1)) = evsV (la ++ lc.take j) ++ evsV [withTh 7 ⟨th2, kd2, rg2, tk2, vl2⟩] by rw [HTC.out, ← List.append_assoc, evsV_append]]
                  exact h13
                clear h13 h12 h11 hS
                go_wp2_with fail
                exact ⟨⟨j + 1, _, _, by omega, rfl, rfl, by go_num, HR3, h16⟩, by simp only [intOf]; omega⟩
              · go_simp
                have h9 := h8.alloc #[.int .i64 7, .int .i64 kd2, .int .i64 rg2, .int .u64 tk2, .int .u64 vl2] 36
                rw [World.size_alloc] at h9
                refine hK.out _ _ (And.intro (five_blk (h9.pull 2)) (five_blk (h9.pull 3))) (fun _ => ?_)
                clear hK K
                refine wpAnyH_ready (rs := [3]) (by kernel_rfl) (by simp) ?_
                refine AllReadyH.cons rfl (fun K hK => ?_) AllReadyH.nil
                refine step_pushAll rfl _ _ _ rfl 36 (.agg #[.int .i64 0, .int .i64 0, .int .i64 0, .int .u64 0, .int .u64 0]) 5 40 Tryz.underlying22 ev_info rfl (by decide) (h9.pull 4) _ 1 1 #[.int .i64 7, .int .i64 kd, .int .i64 rg, .int .u64 tk, .int .u64 vl].toList rfl rfl rfl (blk_cells (h9.pull 1)) (evA_one5 _ _ _ _ _) (by unfold maxLen; omega) (by omega) ?_
                intro A3 d3 w8 h10
                have hS := (And.intro (five_blk (h10.pull 3)) (five_blk (h10.pull 4)))
                refine hK.out _ _ hS (fun _ => ?_)
                clear hK K
                refine wpAnyH_ready (rs := [7]) (by kernel_rfl) (by simp) ?_
                refine AllReadyH.cons rfl (fun K hK => ?_) AllReadyH.nil
                refine step_pushAll rfl _ _ _ rfl 36 (.agg #[.int .i64 0, .int .i64 0, .int .i64 0, .int .u64 0, .int .u64 0]) 5 40 Tryz.underlying22 ev_info rfl (by decide) (h10.pull 5) _ 1 1 #[.int .i64 7, .int .i64 kd2, .int .i64 rg2, .int .u64 tk2, .int .u64 vl2].toList rfl rfl rfl (blk_cells (h10.pull 1)) (evA_one5 _ _ _ _ _) (by unfold maxLen; omega) (by omega) ?_
                intro A4 d4 w9 h11
                have hS := (And.intro (five_blk (h11.pull 4)) (five_blk (h11.pull 5)))
                refine hK.out _ _ hS (fun _ => ?_)
                clear hK K
                refine wpAnyH_take (i := 8) (v := ?_) rfl (by kernel_rfl) (by kernel_rfl) (by kernel_rfl) (fun _ _ _ h => h) (Or.inl ⟨by rfl, ?_⟩) hS ?_
                rotate_left
                · (intro w' hS'; obtain ⟨⟨j0, j1, j2, j3, j4⟩, i0, i1, i2, i3, i4⟩ := hS'; go_simp; try with_reducible rfl)
                refine wpAnyH_take (i := 9) (v := ?_) rfl (by kernel_rfl) (by kernel_rfl) (by kernel_rfl) (fun _ _ _ h => h) (Or.inl ⟨by rfl, ?_⟩) hS ?_
                rotate_left
                · (intro w' hS'; obtain ⟨⟨j0, j1, j2, j3, j4⟩, i0, i1, i2, i3, i4⟩ := hS'; go_simp; try with_reducible rfl)
                refine wpAnyH_done (by kernel_rfl) ?_ _
                have h12 := h11.swap
                have h13 := ((((((((h12).pull 2).drop).pull 2).drop).pull 2).drop).pull 2).drop
                have h16 : St noB w w9 [ownT 36 5 (.slice A3 (i + j + 1) d3) (i + (j + 1)) (evsV (la ++ lb.take (j + 1))), ownT 36 5 (.slice A4 (i + j + 1) d4) (i + (j + 1)) (evsV (la ++ lc.take (j + 1)))] := by
                  rw [show evsV (la ++ lb.take (j + 1)) = evsV (la ++ lb.take j) ++ evsV [withTh 7 ⟨th, kd, rg, tk, vl⟩] by rw [HTB.out, ← List.append_assoc, evsV_append], show evsV (la ++ lc.take (j + 1)) = evsV (la ++ lc.take j) ++ evsV [withTh 7 ⟨th2, kd2, rg2, tk2, vl2⟩] by rw [HTC.out, ← List.append_assoc, evsV_append]]
                  exact h13
                clear h13 h12 h11 hS
                go_wp2_with fail
                exact ⟨⟨j + 1, _, _, by omega, rfl, rfl, by go_num, HR3, h16⟩, by simp only [intOf]; omega⟩
            · go_simp
              have h8 := h7.alloc #[.int .i64 7, .int .i64 kd2, .int .i64 rg2, .int .u64 tk2, .int .u64 vl2] 36
              refine hK.out _ _ (And.intro (five_blk (h8.pull 1)) (five_blk (h8.pull 2))) (fun _ => ?_)
              clear hK K
              refine wpAnyH_ready (rs := [2]) (by kernel_rfl) (by simp) ?_
              refine AllReadyH.cons rfl (fun K hK => ?_) AllReadyH.nil
              go_simp
              have h9 := h8.alloc #[.int .i64 7, .int .i64 kd, .int .i64 rg, .int .u64 tk, .int .u64 vl] 36
              rw [World.size_alloc] at h9
              refine hK.out _ _ (And.intro (five_blk (h9.pull 2)) (five_blk (h9.pull 3))) (fun _ => ?_)
              clear hK K
              refine wpAnyH_ready (rs := [3]) (by kernel_rfl) (by simp) ?_
              refine AllReadyH.cons rfl (fun K hK => ?_) AllReadyH.nil
              refine step_pushAll rfl _ _ _ rfl 36 (.agg #[.int .i64 0, .int .i64 0, .int .i64 0, .int .u64 0, .int .u64 0]) 5 40 Tryz.underlying22 ev_info rfl (by decide) (h9.pull 4) _ 1 1 #[.int .i64 7, .int .i64 kd, .int .i64 rg, .int .u64 tk, .int .u64 vl].toList rfl rfl rfl (blk_cells (h9)) (evA_one5 _ _ _ _ _) (by unfold maxLen; omega) (by omega) ?_
              intro A3 d3 w8 h10
              have hS := (And.intro (five_blk (h10.pull 3)) (five_blk (h10.pull 4)))
              refine hK.out _ _ hS (fun _ => ?_)
              clear hK K
              refine wpAnyH_ready (rs := [7]) (by kernel_rfl) (by simp) ?_
              refine AllReadyH.cons rfl (fun K hK => ?_) AllReadyH.nil
              refine step_pushAll rfl _ _ _ rfl 36 (.agg #[.int .i64 0, .int .i64 0, .int .i64 0, .int .u64 0, .int .u64 0]) 5 40 Tryz.underlying22 ev_info rfl (by decide) (h10.pull 5) _ 1 1 #[.int .i64 7, .int .i64 kd2, .int .i64 rg2, .int .u64 tk2, .int .u64 vl2].toList rfl rfl rfl (blk_cells (h10.pull 2)) (evA_one5 _ _ _ _ _) (by unfold maxLen; omega) (by omega) ?_
              intro A4 d4 w9 h11
              have hS := (And.intro (five_blk (h11.pull 4)) (five_blk (h11.pull 5)))
              refine hK.out _ _ hS (fun _ => ?_)
              clear hK K
              refine wpAnyH_take (i := 8) (v := ?_) rfl (by kernel_rfl) (by kernel_rfl) (by kernel_rfl) (fun _ _ _ h => h) (Or.inl ⟨by rfl, ?_⟩) hS ?_
              rotate_left
              · (intro w' hS'; obtain ⟨⟨j0, j1, j2, j3, j4⟩, i0, i1, i2, i3, i4⟩ := hS'; go_simp; try with_reducible rfl)
              refine wpAnyH_take (i := 9) (v := ?_) rfl (by kernel_rfl) (by kernel_rfl) (by kernel_rfl) (fun _ _ _ h => h) (Or.inl ⟨by rfl, ?_⟩) hS ?_
              rotate_left
              · (intro w' hS'; obtain ⟨⟨j0, j1, j2, j3, j4⟩, i0, i1, i2, i3, i4⟩ := hS'; go_simp; try with_reducible rfl)
              refine wpAnyH_done (by kernel_rfl) ?_ _
              have h12 := h11.swap
              have h13 := ((((((((h12).pull 2).drop).pull 2).drop).pull 2).drop).pull 2).drop
              have h16 : St noB w w9 [ownT 36 5 (.slice A3 (i + j + 1) d3) (i + (j + 1)) (evsV (la ++ lb.take (j + 1))), ownT 36 5 (.slice A4 (i + j + 1) d4) (i + (j + 1)) (evsV (la ++ lc.take (j + 1)))] := by
                rw [show evsV (la ++ lb.take (j + 1)) = evsV (la ++ lb.take j) ++ evsV [withTh 7 ⟨th, kd, rg, tk, vl⟩] by rw [HTB.out, ← List.append_assoc, evsV_append], show evsV (la ++ lc.take (j + 1)) = evsV (la ++ lc.take j) ++ evsV [withTh 7 ⟨th2, kd2, rg2, tk2, vl2⟩] by rw [HTC.out, ← List.append_assoc, evsV_append]]
                exact h13
              clear h13 h12 h11 hS
              go_wp2_with fail
              exact ⟨⟨j + 1, _, _, by omega, rfl, rfl, by go_num, HR3, h16⟩, by simp only [intOf]; omega⟩
          · go_simp
            have h5 := h4.alloc #[.int .i64 0, .int .i64 0, .int .i64 0, .int .u64 0, .int .u64 0] 36
            refine hK.out _ _ h5.ends (fun _ => ?_)
            clear hK K
            refine wpAnyH_ready (rs := [8]) (by kernel_rfl) (by simp) ?_
            refine AllReadyH.cons rfl (fun K hK => ?_) AllReadyH.nil
            go_simp
            have h7 := h5.alloc #[.int .i64 0, .int .i64 0, .int .i64 0, .int .u64 0, .int .u64 0] 36
            rw [World.size_alloc] at h7
            refine hK.out _ _ h7.ends (fun _ => ?_)
            clear hK K
            refine wpAnyH_ready (rs := [10]) (by kernel_rfl) (by simp) ?_
            refine AllReadyH.cons rfl (fun K hK => ?_) AllReadyH.nil
            refine step_store_blk rfl _ _ _ rfl _ #[.int .i64 th, .int .i64 kd, .int .i64 rg, .int .u64 tk, .int .u64 vl] rfl rfl 36 #[.int .i64 0, .int .i64 0, .int .i64 0, .int .u64 0, .int .u64 0] h7.blk ev_size rfl (by simp [Value.oneCell']) rfl ?_
            have h8 := h7.row #[.int .i64 th, .int .i64 kd, .int .i64 rg, .int .u64 tk, .int .u64 vl]
            refine hK.out _ _ h8.ends (fun _ => ?_)
            clear hK K
            refine wpAnyH_ready (rs := [11]) (by kernel_rfl) (by simp) ?_
            refine AllReadyH.cons rfl (fun K hK => ?_) AllReadyH.nil
            refine step_store_blk rfl _ _ _ rfl _ #[.int .i64 th2, .int .i64 kd2, .int .i64 rg2, .int .u64 tk2, .int .u64 vl2] rfl rfl 36 #[.int .i64 0, .int .i64 0, .int .i64 0, .int .u64 0, .int .u64 0] (h8.pull 1).blk ev_size rfl (by simp [Value.oneCell']) rfl ?_
            have h9 := ((h8.pull 1).row #[.int .i64 th2, .int .i64 kd2, .int .i64 rg2, .int .u64 tk2, .int .u64 vl2]).swap
            refine hK.out _ _ h9.ends (fun _ => ?_)
            clear hK K
            refine wpAnyH_done (by kernel_rfl) ?_ _
            change Exit.then _ _ _ _ ((((wr.drew.alloc (.cells #[.int .i64 0, .int .i64 0, .int .i64 0, .int .u64 0, .int .u64 0] 36)).alloc (.cells #[.int .i64 0, .int .i64 0, .int .i64 0, .int .u64 0, .int .u64 0] 36)).setRow (wr.heap.size + 1) #[.int .i64 th, .int .i64 kd, .int .i64 rg, .int .u64 tk, .int .u64 vl]).setRow wr.heap.size #[.int .i64 th2, .int .i64 kd2, .int .i64 rg2, .int .u64 tk2, .int .u64 vl2])
            have h10 : St noB w ((((wr.drew.alloc (.cells #[.int .i64 0, .int .i64 0, .int .i64 0, .int .u64 0, .int .u64 0] 36)).alloc (.cells #[.int .i64 0, .int .i64 0, .int .i64 0, .int .u64 0, .int .u64 0] 36)).setRow (wr.heap.size + 1) #[.int .i64 th, .int .i64 kd, .int .i64 rg, .int .u64 tk, .int .u64 vl]).setRow wr.heap.size #[.int .i64 th2, .int .i64 kd2, .int .i64 rg2, .int .u64 tk2, .int .u64 vl2]) [blkT (wr.heap.size + 1) #[.int .i64 th, .int .i64 kd, .int .i64 rg, .int .u64 tk, .int .u64 vl] 36, blkT wr.heap.size #[.int .i64 th2, .int .i64 kd2, .int .i64 rg2, .int .u64 tk2, .int .u64 vl2] 36, ownT 36 5 (.slice A1 (i + j) c1) (i + j) (evsV (la ++ lb.take j)), ownT 36 5 (.slice A2 (i + j) c2) (i + j) (evsV (la ++ lc.take j))] := h9
            clear hS h9 h8 h7 h5 h4
            generalize ((((wr.drew.alloc (.cells #[.int .i64 0, .int .i64 0, .int .i64 0, .int .u64 0, .int .u64 0] 36)).alloc (.cells #[.int .i64 0, .int .i64 0, .int .i64 0, .int .u64 0, .int .u64 0] 36)).setRow (wr.heap.size + 1) #[.int .i64 th, .int .i64 kd, .int .i64 rg, .int .u64 tk, .int .u64 vl]).setRow wr.heap.size #[.int .i64 th2, .int .i64 kd2, .int .i64 rg2, .int .u64 tk2, .int .u64 vl2]) = w7 at h10 ⊢
            have hne1 : (wr.heap.size + 1) ≠ wr.heap.size := by omega
            have hne2 : wr.heap.size ≠ (wr.heap.size + 1) := by omega
            generalize wr.heap.size + 1 = g12 at h10 hne1 hne2 ⊢
            generalize wr.heap.size = g13 at h10 hne1 hne2 ⊢
            have p0 : _ = some (Value.int .i64 th) := cell_of_heap h10.blk 0
            have p1 := free_of_heap h10.blk 0
            have h11 := h10.set 0 (.int .i64 7)
            have h12 := h11.pull 1
            have p2 : _ = some (Value.int .i64 th2) := cell_of_heap h12.blk 0
            have p3 := free_of_heap h12.blk 0
            have h13 := (h12.set 0 (.int .i64 7)).swap
            change St noB w _ [blkT g12 #[.int .i64 7, .int .i64 kd, .int .i64 rg, .int .u64 tk, .int .u64 vl] 36, blkT g13 #[.int .i64 7, .int .i64 kd2, .int .i64 rg2, .int .u64 tk2, .int .u64 vl2] 36, ownT 36 5 (.slice A1 (i + j) c1) (i + j) (evsV (la ++ lb.take j)), ownT 36 5 (.slice A2 (i + j) c2) (i + j) (evsV (la ++ lc.take j))] at h13
            have q1 := five_blk h13
            have q2 := five_blk (h13.pull 1)
            obtain ⟨m0, m1, m2, m3, m4⟩ := q1
            obtain ⟨n0, n1, n2, n3, n4⟩ := q2
            go_wp2_with fail
            clear p0 p1 p2 p3 h10 h11 h12 m0 m1 m2 m3 m4 n0 n1 n2 n3 n4
            generalize (w7.setCell ⟨g12, 0, none⟩ (.int .i64 7)).setCell ⟨g13, 0, none⟩ (.int .i64 7) = w8 at h13 ⊢
            refine (HRt1.out w8).mono ?_
            rintro _ w9 ⟨rfl, x9⟩
            have h14 := h13.ext x9
            clear h13 x9
            by_cases hr1 : rightE ⟨7, kd, rg, tk, vl⟩
            rotate_left
            · rw [decide_eq_false hr1]
              have hx := h14.ends
              clear hr1
              go_wp2_with fail
              go_ret
              exact ⟨rfl, hx⟩
            rw [decide_eq_true hr1]
            obtain ⟨n0, n1, n2, n3, n4⟩ := five_blk (h14.pull 1)
            go_wp2_with fail
            refine (HRt2.out w9).mono ?_
            rintro _ w10 ⟨rfl, x10⟩
            have h15 := h14.ext x10
            clear h14 x10 n0 n1 n2 n3 n4
            by_cases hr2 : rightE ⟨7, kd2, rg2, tk2, vl2⟩
            rotate_left
            · rw [decide_eq_false hr2]
              have hx := h15.ends
              clear hr1 hr2
              go_wp2_with fail
              go_ret
              exact ⟨rfl, hx⟩
            rw [decide_eq_true hr2]
            have HR3 := Lib.hid (HR2.out hr1 hr2)
            clear hr1 hr2 HR2 HR hne1 hne2 HRt1 HRt2 c0 c1' c2' c3 c4 d0 d1 d2 d3 d4
            go_wp2_with fail
            have h7 := h15.ext (Mut.refl noB w10).drew
            have hS : (fun w' : World => Five w' g12 7 kd rg tk vl ∧ Five w' g13 7 kd2 rg2 tk2 vl2) w10.drew := ⟨five_blk h7, five_blk (h7.pull 1)⟩
            refine wp_region_held (S := fun w' : World => Five w' g12 7 kd rg tk vl ∧ Five w' g13 7 kd2 rg2 tk2 vl2) (by kernel_rfl) ?_
            change wpAnyH _ _ _ _ _ _ _ _ (World.drew _)
            refine wpAnyH_take (i := 0) (v := ?_) rfl (by kernel_rfl) (by kernel_rfl) (by kernel_rfl) (fun _ _ _ h => h) (Or.inl ⟨by rfl, ?_⟩) hS ?_
            rotate_left
            · (intro w' hS'; obtain ⟨⟨j0, j1, j2, j3, j4⟩, i0, i1, i2, i3, i4⟩ := hS'; go_simp; try with_reducible rfl)
            refine wpAnyH_take (i := 1) (v := ?_) rfl (by kernel_rfl) (by kernel_rfl) (by kernel_rfl) (fun _ _ _ h => h) (Or.inl ⟨by rfl, ?_⟩) hS ?_
            rotate_left
            · (intro w' hS'; obtain ⟨⟨j0, j1, j2, j3, j4⟩, i0, i1, i2, i3, i4⟩ := hS'; go_simp; try with_reducible rfl)
            refine wpAnyH_take (i := 4) (v := ?_) rfl (by kernel_rfl) (by kernel_rfl) (by kernel_rfl) (fun _ _ _ h => h) (Or.inl ⟨by rfl, ?_⟩) hS ?_
            rotate_left
            · (intro w' hS'; obtain ⟨⟨j0, j1, j2, j3, j4⟩, i0, i1, i2, i3, i4⟩ := hS'; go_simp; try with_reducible rfl)
            refine wpAnyH_take (i := 5) (v := ?_) rfl (by kernel_rfl) (by kernel_rfl) (by kernel_rfl) (fun _ _ _ h => h) (Or.inl ⟨by rfl, ?_⟩) hS ?_
            rotate_left
            · (intro w' hS'; obtain ⟨⟨j0, j1, j2, j3, j4⟩, i0, i1, i2, i3, i4⟩ := hS'; go_simp; try with_reducible rfl)
            refine wpAnyH_ready (rs := [2, 6]) (by kernel_rfl) (by simp) ?_
            refine AllReadyH.cons rfl (fun K hK => ?_) (AllReadyH.cons rfl (fun K hK => ?_) AllReadyH.nil)
            · go_simp
              have h8 := h7.alloc #[.int .i64 7, .int .i64 kd, .int .i64 rg, .int .u64 tk, .int .u64 vl] 36
              refine hK.out _ _ (And.intro (five_blk (h8.pull 1)) (five_blk (h8.pull 2))) (fun _ => ?_)
              clear hK K
              refine wpAnyH_ready (rs := [3, 6]) (by kernel_rfl) (by simp) ?_
              refine AllReadyH.cons rfl (fun K hK => ?_) (AllReadyH.cons rfl (fun K hK => ?_) AllReadyH.nil)
              · refine step_pushAll rfl _ _ _ rfl 36 (.agg #[.int .i64 0, .int .i64 0, .int .i64 0, .int .u64 0, .int .u64 0]) 5 40 Tryz.underlying22 ev_info rfl (by decide) (h8.pull 3) _ 1 1 #[.int .i64 7, .int .i64 kd, .int .i64 rg, .int .u64 tk, .int .u64 vl].toList rfl rfl rfl (blk_cells (h8)) (evA_one5 _ _ _ _ _) (by unfold maxLen; omega) (by omega) ?_
                intro A3 d3 w8 h9
                have hS := (And.intro (five_blk (h9.pull 2)) (five_blk (h9.pull 3)))
                refine hK.out _ _ hS (fun _ => ?_)
                clear hK K
                refine wpAnyH_ready (rs := [6]) (by kernel_rfl) (by simp) ?_
                refine AllReadyH.cons rfl (fun K hK => ?_) AllReadyH.nil
                go_simp
                have h10 := h9.alloc #[.int .i64 7, .int .i64 kd2, .int .i64 rg2, .int .u64 tk2, .int .u64 vl2] 36
                refine hK.out _ _ (And.intro (five_blk (h10.pull 3)) (five_blk (h10.pull 4))) (fun _ => ?_)
                clear hK K
                refine wpAnyH_ready (rs := [7]) (by kernel_rfl) (by simp) ?_
                refine AllReadyH.cons rfl (fun K hK => ?_) AllReadyH.nil
                refine step_pushAll rfl _ _ _ rfl 36 (.agg #[.int .i64 0, .int .i64 0, .int .i64 0, .int .u64 0, .int .u64 0]) 5 40 Tryz.underlying22 ev_info rfl (by decide) (h10.pull 5) _ 1 1 #[.int .i64 7, .int .i64 kd2, .int .i64 rg2, .int .u64 tk2, .int .u64 vl2].toList rfl rfl rfl (blk_cells (h10)) (evA_one5 _ _ _ _ _) (by unfold maxLen; omega) (by omega) ?_
                intro A4 d4 w9 h11
                have hS := (And.intro (five_blk (h11.pull 4)) (five_blk (h11.pull 5)))
                refine hK.out _ _ hS (fun _ => ?_)
                clear hK K
                refine wpAnyH_take (i := 8) (v := ?_) rfl (by kernel_rfl) (by kernel_rfl) (by kernel_rfl) (fun _ _ _ h => h) (Or.inl ⟨by rfl, ?_⟩) hS ?_
                rotate_left
                · (intro w' hS'; obtain ⟨⟨j0, j1, j2, j3, j4⟩, i0, i1, i2, i3, i4⟩ := hS'; go_simp; try with_reducible rfl)
                refine wpAnyH_take (i := 9) (v := ?_) rfl (by kernel_rfl) (by kernel_rfl) (by kernel_rfl) (fun _ _ _ h => h) (Or.inl ⟨by rfl, ?_⟩) hS ?_
                rotate_left
                · (intro w' hS'; obtain ⟨⟨j0, j1, j2, j3, j4⟩, i0, i1, i2, i3, i4⟩ := hS'; go_simp; try with_reducible rfl)
                refine wpAnyH_done (by kernel_rfl) ?_ _
                have h12 := (h11.pull 1).drop.swap
                have h13 := ((((((h12).pull 2).drop).pull 2).drop).pull 2).drop
                have h16 : St noB w w9 [ownT 36 5 (.slice A3 (i + j + 1) d3) (i + (j + 1)) (evsV (la ++ lb.take (j + 1))), ownT 36 5 (.slice A4 (i + j + 1) d4) (i + (j + 1)) (evsV (la ++ lc.take (j + 1)))] := by
                  rw [show evsV (la ++ lb.take (j + 1)) = evsV (la ++ lb.take j) ++ evsV [withTh 7 ⟨th, kd, rg, tk, vl⟩] by rw [HTB.out, ← List.append_assoc, evsV_append], show evsV (la ++ lc.take (j + 1)) = evsV (la ++ lc.take j) ++ evsV [withTh 7 ⟨th2, kd2, rg2, tk2, vl2⟩] by rw [HTC.out, ← List.append_assoc, evsV_append]]
                  exact h13
                clear h13 h12 h11 hS
                go_wp2_with fail
                exact ⟨⟨j + 1, _, _, by omega, rfl, rfl, by go_num, HR3, h16⟩, by simp only [intOf]; omega⟩
              · go_simp
                have h9 := h8.alloc #[.int .i64 7, .int .i64 kd2, .int .i64 rg2, .int .u64 tk2, .int .u64 vl2] 36
                rw [World.size_alloc] at h9
                refine hK.out _ _ (And.intro (five_blk (h9.pull 2)) (five_blk (h9.pull 3))) (fun _ => ?_)
                clear hK K
                refine wpAnyH_ready (rs := [3]) (by kernel_rfl) (by simp) ?_
                refine AllReadyH.cons rfl (fun K hK => ?_) AllReadyH.nil
                refine step_pushAll rfl _ _ _ rfl 36 (.agg #[.int .i64 0, .int .i64 0, .int .i64 0, .int .u64 0, .int .u64 0]) 5 40 Tryz.underlying22 ev_info rfl (by decide) (h9.pull 4) _ 1 1 #[.int .i64 7, .int .i64 kd, .int .i64 rg, .int .u64 tk, .int .u64 vl].toList rfl rfl rfl (blk_cells (h9.pull 1)) (evA_one5 _ _ _ _ _) (by unfold maxLen; omega) (by omega) ?_
                intro A3 d3 w8 h10
                have hS := (And.intro (five_blk (h10.pull 3)) (five_blk (h10.pull 4)))
                refine hK.out _ _ hS (fun _ => ?_)
                clear hK K
                refine wpAnyH_ready (rs := [7]) (by kernel_rfl) (by simp) ?_
                refine AllReadyH.cons rfl (fun K hK => ?_) AllReadyH.nil
                refine step_pushAll rfl _ _ _ rfl 36 (.agg #[.int .i64 0, .int .i64 0, .int .i64 0, .int .u64 0, .int .u64 0]) 5 40 Tryz.underlying22 ev_info rfl (by decide) (h10.pull 5) _ 1 1 #[.int .i64 7, .int .i64 kd2, .int .i64 rg2, .int .u64 tk2, .int .u64 vl2].toList rfl rfl rfl (blk_cells (h10.pull 1)) (evA_one5 _ _ _ _ _) (by unfold maxLen; omega) (by omega) ?_
                intro A4 d4 w9 h11
                have hS := (And.intro (five_blk (h11.pull 4)) (five_blk (h11.pull 5)))
                refine hK.out _ _ hS (fun _ => ?_)
                clear hK K
                refine wpAnyH_take (i := 8) (v := ?_) rfl (by kernel_rfl) (by kernel_rfl) (by kernel_rfl) (fun _ _ _ h => h) (Or.inl ⟨by rfl, ?_⟩) hS ?_
                rotate_left
                · (intro w' hS'; obtain ⟨⟨j0, j1, j2, j3, j4⟩, i0, i1, i2, i3, i4⟩ := hS'; go_simp; try with_reducible rfl)
                refine wpAnyH_take (i := 9) (v := ?_) rfl (by kernel_rfl) (by kernel_rfl) (by kernel_rfl) (fun _ _ _ h => h) (Or.inl ⟨by rfl, ?_⟩) hS ?_
                rotate_left
                · (intro w' hS'; obtain ⟨⟨j0, j1, j2, j3, j4⟩, i0, i1, i2, i3, i4⟩ := hS'; go_simp; try with_reducible rfl)
                refine wpAnyH_done (by kernel_rfl) ?_ _
                have h12 := h11.swap
                have h13 := ((((((((h12).pull 2).drop).pull 2).drop).pull 2).drop).pull 2).drop
                have h16 : St noB w w9 [ownT 36 5 (.slice A3 (i + j + 1) d3) (i + (j + 1)) (evsV (la ++ lb.take (j + 1))), ownT 36 5 (.slice A4 (i + j + 1) d4) (i + (j + 1)) (evsV (la ++ lc.take (j + 1)))] := by
                  rw [show evsV (la ++ lb.take (j + 1)) = evsV (la ++ lb.take j) ++ evsV [withTh 7 ⟨th, kd, rg, tk, vl⟩] by rw [HTB.out, ← List.append_assoc, evsV_append], show evsV (la ++ lc.take (j + 1)) = evsV (la ++ lc.take j) ++ evsV [withTh 7 ⟨th2, kd2, rg2, tk2, vl2⟩] by rw [HTC.out, ← List.append_assoc, evsV_append]]
                  exact h13
                clear h13 h12 h11 hS
                go_wp2_with fail
                exact ⟨⟨j + 1, _, _, by omega, rfl, rfl, by go_num, HR3, h16⟩, by simp only [intOf]; omega⟩
            · go_simp
              have h8 := h7.alloc #[.int .i64 7, .int .i64 kd2, .int .i64 rg2, .int .u64 tk2, .int .u64 vl2] 36
              refine hK.out _ _ (And.intro (five_blk (h8.pull 1)) (five_blk (h8.pull 2))) (fun _ => ?_)
              clear hK K
              refine wpAnyH_ready (rs := [2]) (by kernel_rfl) (by simp) ?_
              refine AllReadyH.cons rfl (fun K hK => ?_) AllReadyH.nil
              go_simp
              have h9 := h8.alloc #[.int .i64 7, .int .i64 kd, .int .i64 rg, .int .u64 tk, .int .u64 vl] 36
              rw [World.size_alloc] at h9
              refine hK.out _ _ (And.intro (five_blk (h9.pull 2)) (five_blk (h9.pull 3))) (fun _ => ?_)
              clear hK K
              refine wpAnyH_ready (rs := [3]) (by kernel_rfl) (by simp) ?_
              refine AllReadyH.cons rfl (fun K hK => ?_) AllReadyH.nil
              refine step_pushAll rfl _ _ _ rfl 36 (.agg #[.int .i64 0, .int .i64 0, .int .i64 0, .int .u64 0, .int .u64 0]) 5 40 Tryz.underlying22 ev_info rfl (by decide) (h9.pull 4) _ 1 1 #[.int .i64 7, .int .i64 kd, .int .i64 rg, .int .u64 tk, .int .u64 vl].toList rfl rfl rfl (blk_cells (h9)) (evA_one5 _ _ _ _ _) (by unfold maxLen; omega) (by omega) ?_
              intro A3 d3 w8 h10
              have hS := (And.intro (five_blk (h10.pull 3)) (five_blk (h10.pull 4)))
              refine hK.out _ _ hS (fun _ => ?_)
              clear hK K
              refine wpAnyH_ready (rs := [7]) (by kernel_rfl) (by simp) ?_
              refine AllReadyH.cons rfl (fun K hK => ?_) AllReadyH.nil
              refine step_pushAll rfl _ _ _ rfl 36 (.agg #[.int .i64 0, .int .i64 0, .int .i64 0, .int .u64 0, .int .u64 0]) 5 40 Tryz.underlying22 ev_info rfl (by decide) (h10.pull 5) _ 1 1 #[.int .i64 7, .int .i64 kd2, .int .i64 rg2, .int .u64 tk2, .int .u64 vl2].toList rfl rfl rfl (blk_cells (h10.pull 2)) (evA_one5 _ _ _ _ _) (by unfold maxLen; omega) (by omega) ?_
              intro A4 d4 w9 h11
              have hS := (And.intro (five_blk (h11.pull 4)) (five_blk (h11.pull 5)))
              refine hK.out _ _ hS (fun _ => ?_)
              clear hK K
              refine wpAnyH_take (i := 8) (v := ?_) rfl (by kernel_rfl) (by kernel_rfl) (by kernel_rfl) (fun _ _ _ h => h) (Or.inl ⟨by rfl, ?_⟩) hS ?_
              rotate_left
              · (intro w' hS'; obtain ⟨⟨j0, j1, j2, j3, j4⟩, i0, i1, i2, i3, i4⟩ := hS'; go_simp; try with_reducible rfl)
              refine wpAnyH_take (i := 9) (v := ?_) rfl (by kernel_rfl) (by kernel_rfl) (by kernel_rfl) (fun _ _ _ h => h) (Or.inl ⟨by rfl, ?_⟩) hS ?_
              rotate_left
              · (intro w' hS'; obtain ⟨⟨j0, j1, j2, j3, j4⟩, i0, i1, i2, i3, i4⟩ := hS'; go_simp; try with_reducible rfl)
              refine wpAnyH_done (by kernel_rfl) ?_ _
              have h12 := h11.swap
              have h13 := ((((((((h12).pull 2).drop).pull 2).drop).pull 2).drop).pull 2).drop
              have h16 : St noB w w9 [ownT 36 5 (.slice A3 (i + j + 1) d3) (i + (j + 1)) (evsV (la ++ lb.take (j + 1))), ownT 36 5 (.slice A4 (i + j + 1) d4) (i + (j + 1)) (evsV (la ++ lc.take (j + 1)))] := by
                rw [show evsV (la ++ lb.take (j + 1)) = evsV (la ++ lb.take j) ++ evsV [withTh 7 ⟨th, kd, rg, tk, vl⟩] by rw [HTB.out, ← List.append_assoc, evsV_append], show evsV (la ++ lc.take (j + 1)) = evsV (la ++ lc.take j) ++ evsV [withTh 7 ⟨th2, kd2, rg2, tk2, vl2⟩] by rw [HTC.out, ← List.append_assoc, evsV_append]]
                exact h13
              clear h13 h12 h11 hS
              go_wp2_with fail
              exact ⟨⟨j + 1, _, _, by omega, rfl, rfl, by go_num, HR3, h16⟩, by simp only [intOf]; omega⟩
        · obtain rfl : j = m := by omega
          have hltj : ¬ (j : Int) < (j : Int) := by omega
          rw [List.take_of_length_le (by rw [HLB.out]; exact Nat.le_refl _), List.take_of_length_le (by rw [HLC.out]; exact Nat.le_refl _)] at h
          clear HGB HGC
          obtain ⟨g, cap, e, _, hcap, _⟩ := h.own.slice (by omega)
          cases e
          have ga : ∀ x, x < i → la.getD x default = withTh 0 (l.getD x default) := fun x hx => by rw [← hla]; exact getD_map l _ x (by rw [HN.out]; exact hx)
          have gb : ∀ x, x < j → lb.getD x default = withTh 7 (k.getD x default) := fun x hx => by rw [← hlb]; exact getD_map k _ x (by rw [HM.out]; exact hx)
          have gc : ∀ x, x < j → lc.getD x default = withTh 7 (q.getD x default) := fun x hx => by rw [← hlc]; exact getD_map q _ x (by rw [HP.out]; exact hx)
          have ra : ∀ x, x < i → rightE (la.getD x default) := fun x hx => by rw [ga x hx]; exact HRA.out x hx
          have rb : ∀ x, x < j → rightE (lb.getD x default) := fun x hx => by rw [gb x hx]; exact (HR.out x hx).1
          have rc : ∀ x, x < j → rightE (lc.getD x default) := fun x hx => by rw [gc x hx]; exact (HR.out x hx).2
          have va : ∀ x, x < i → (la.getD x default).vl < 18446744073709551616 := fun x hx => by rw [ga x hx]; exact hv x (by rw [HN.out]; exact hx)
          have vb : ∀ x, x < j → (lb.getD x default).vl < 18446744073709551616 := fun x hx => by rw [gb x hx]; exact hu x (by rw [HM.out]; exact hx)
          have vc : ∀ x, x < j → (lc.getD x default).vl < 18446744073709551616 := fun x hx => by rw [gc x hx]; exact hz x (by rw [HP.out]; exact hx)
          have cX := two_right la lb i j HLA.out HLB.out ra rb (by omega)
          have cY := two_right la lc i j HLA.out HLC.out ra rc (by omega)
          have wX := two_vl la lb i j HLA.out HLB.out va vb
          have wY := two_vl la lc i j HLA.out HLC.out va vc
          have hAE : AllE la := fun x hx => by rw [HLA.out] at hx; exact ⟨ra x hx, va x hx⟩
          have hLE : (layE la (List.range la.length)).length ≤ 40 + 52 * i := by
            have q := layE_len la (List.range la.length) hAE (fun x hx => by rw [List.length_range] at hx; simp [hx]) (by rw [List.length_range, HLA.out]; omega)
            have q2 := HLA.out
            rw [List.length_range] at q
            omega
          have lX : (la ++ lb).length = i + j := by rw [List.length_append, HLA.out, HLB.out]
          have lY : (la ++ lc).length = i + j := by rw [List.length_append, HLA.out, HLC.out]
          have eX := Own.erow h.own lX
          have eY := Own.erow (h.pull 1).own lY
          have t0 : ∀ x, x < la.length → (la.getD x default).th = 0 := fun x hx => by rw [HLA.out] at hx; rw [ga x hx]; rfl
          have t7 : ∀ x, x < lb.length → (lb.getD x default).th = 7 := fun x hx => by rw [HLB.out] at hx; rw [gb x hx]; rfl
          have t8 : ∀ x, x < lc.length → (lc.getD x default).th = 7 := fun x hx => by rw [HLC.out] at hx; rw [gc x hx]; rfl
          obtain ⟨F1, Z1, f1, e1⟩ := streams_two la lb t0 t7 (by rw [HLA.out]; omega) (by rw [HLA.out]; omega) (by rw [HLB.out]; omega)
          obtain ⟨F2, Z2, f2, e2⟩ := streams_two la lc t0 t8 (by rw [HLA.out]; omega) (by rw [HLA.out]; omega) (by rw [HLC.out]; omega)
          obtain ⟨F3, f3, e3⟩ := streams_head la t0 (by rw [HLA.out]; omega) (by rw [HLA.out]; omega)
          rw [HLB.out] at f1
          rw [HLC.out] at f2
          have HSX := Lib.hid (fun w' (x : Ext wr w') => strs_ok (some ⟨g, 0, none⟩) c1 (i + j) (la ++ lb) w' lX (eX.ext x) cX wX)
          have HSY := Lib.hid (fun w' (x : Ext wr w') => strs_ok A2 c2 (i + j) (la ++ lc) w' lY (eY.ext x) cY wY)
          have HSH := Lib.hid (fun w' (x : Ext wr w') => rstrs_any (some ⟨g, 0, none⟩) c1 i la w' HLA.out (by omega) (erow_front (eX.ext x)) hAE)
          have HX := Lib.hid h.ends
          clear h hs ht hr hv hu hz ga gb gc ra rb rc va vb vc cX cY wX wY hAE lX lY eX eY t0 t7 t8 HRA HR hla hlb hlc
          generalize layE la (List.range la.length) = LE at *
          obtain ⟨ss, hss⟩ : ∃ s : ByteArray, s = ⟨(streamsP (la ++ lb)).toArray⟩ := ⟨_, rfl⟩
          obtain ⟨tt, htt⟩ : ∃ s : ByteArray, s = ⟨(streamsP (la ++ lc)).toArray⟩ := ⟨_, rfl⟩
          obtain ⟨hh, hhh⟩ : ∃ s : ByteArray, s = ⟨(streamsP la).toArray⟩ := ⟨_, rfl⟩
          rw [← hss] at HSX
          rw [← htt] at HSY
          rw [← hhh] at HSH
          rw [e1] at hss
          rw [e2] at htt
          rw [e3] at hhh
          have zh : hh.size = LE.length + 3 := by rw [hhh, bytes_size, List.length_append, f3, Nat.add_comm]
          have zs : ss.size = frontOf j + LE.length + Z1.length := by rw [hss, bytes_size, List.length_append, List.length_append, f1]
          have zt : tt.size = frontOf j + LE.length + Z2.length := by rw [htt, bytes_size, List.length_append, List.length_append, f2]
          have ph := piece (s := hh) (Z := []) (by rw [List.append_nil]; exact hhh) f3 (show 3 + LE.length = hh.size by rw [zh, Nat.add_comm])
          obtain ⟨d, hd⟩ : ∃ d, LE.length = d := ⟨_, rfl⟩
          have hown : (hh.size : Int) - 3 = (d : Int) := by rw [zh, hd]; omega
          have hb3 : (3 : Int) ≤ (hh.size : Int) := by rw [zh]; omega
          have hd6 : d ≤ 10000 := by omega
          clear hLE
          by_cases hj0 : j = 0
          · subst hj0
            have ps := piece hss f1 (show frontOf 0 + LE.length = 3 + LE.length from rfl)
            have pt := piece htt f2 (show frontOf 0 + LE.length = 3 + LE.length from rfl)
            change ss.extract 3 (3 + LE.length) = _ at ps
            change tt.extract 3 (3 + LE.length) = _ at pt
            change ss.size = 3 + LE.length + Z1.length at zs
            change tt.size = 3 + LE.length + Z2.length at zt
            rw [hd] at ps pt zs zt
            have k1 : (3 : Int) + (d : Int) ≤ (ss.size : Int) := by rw [zs]; omega
            have k2 : (3 : Int) + (d : Int) ≤ (tt.size : Int) := by rw [zt]; omega
            clear hss htt hhh e1 e2 e3 f1 f2 f3 zs zt zh hd
            go_wp2_with fail
            refine (HSX.out wr (Mut.refl _ _)).mono ?_
            rintro _ w5 ⟨rfl, x5⟩
            go_wp2_with fail
            refine (HSY.out w5 x5).mono ?_
            rintro _ w6 ⟨rfl, x6⟩
            replace x6 := x5.trans x6
            clear x5
            go_wp2_with fail
            refine (HSH.out w6 x6).mono ?_
            rintro _ w7 ⟨rfl, x7⟩
            have HX7 := Lib.hid (HX.out.trans (x6.trans x7))
            clear x6 x7 HSX HSY HSH HX
            go_wp2_with fail
            (refine wp_region_after (by kernel_rfl) (by kernel_rfl) ?_; (repeat (first | go_big_quiet_skip | (go_big_quiet_want; first | (fail; simp only [Act.put, List.setIfInBounds_toArray, List.set_cons_succ, List.set_cons_zero]; go_big_quiet_on) | (go_big_quiet_op; first | go_big_quiet_on | (apply Exists.intro; refine ⟨fun _ => ?_, ?_⟩; (· (fail)); go_big_quiet_on))))); refine wpQuiet_nil ?_; rintro _ ⟨y, rfl⟩)
            go_wp2_with fail
            go_ret
            exact ⟨rfl, HX7.out.trans y.ext⟩
          · have hjp : (0 : Int) < (j : Int) := by omega
            have hfr : frontOf j = 5 := by unfold frontOf; rw [if_neg hj0]
            rw [hfr] at zs zt f1 f2
            have ps := piece hss f1 (show 5 + LE.length = 5 + LE.length from rfl)
            have pt := piece htt f2 (show 5 + LE.length = 5 + LE.length from rfl)
            clear hfr
            rw [hd] at ps pt zs zt
            have k1 : (5 : Int) + (d : Int) ≤ (ss.size : Int) := by rw [zs]; omega
            have k2 : (5 : Int) + (d : Int) ≤ (tt.size : Int) := by rw [zt]; omega
            clear hss htt hhh e1 e2 e3 f1 f2 f3 zs zt zh hd
            go_wp2_with fail
            refine (HSX.out wr (Mut.refl _ _)).mono ?_
            rintro _ w5 ⟨rfl, x5⟩
            go_wp2_with fail
            refine (HSY.out w5 x5).mono ?_
            rintro _ w6 ⟨rfl, x6⟩
            replace x6 := x5.trans x6
            clear x5
            go_wp2_with fail
            refine (HSH.out w6 x6).mono ?_
            rintro _ w7 ⟨rfl, x7⟩
            have HX7 := Lib.hid (HX.out.trans (x6.trans x7))
            clear x6 x7 HSX HSY HSH HX
            go_wp2_with fail
            (refine wp_region_after (by kernel_rfl) (by kernel_rfl) ?_; (repeat (first | go_big_quiet_skip | (go_big_quiet_want; first | (fail; simp only [Act.put, List.setIfInBounds_toArray, List.set_cons_succ, List.set_cons_zero]; go_big_quiet_on) | (go_big_quiet_op; first | go_big_quiet_on | (apply Exists.intro; refine ⟨fun _ => ?_, ?_⟩; (· (fail)); go_big_quiet_on))))); refine wpQuiet_nil ?_; rintro _ ⟨y, rfl⟩)
            go_wp2_with fail
            go_ret
            exact ⟨rfl, HX7.out.trans y.ext⟩
end Go.Proofs.YtjdglpngcdcneaaGreat
