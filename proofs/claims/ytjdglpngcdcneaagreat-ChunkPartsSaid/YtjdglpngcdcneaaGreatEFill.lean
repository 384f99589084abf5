/- Layer 21: a thread's streams are read into its events. -/
import Derived.Test.YtjdglpngcdcneaaGreatEFilP
namespace Go.Proofs.YtjdglpngcdcneaaGreat
open Go.RowKit Go.WideShapes
set_option linter.unusedVariables false
set_option linter.unusedSimpArgs false
set_option linter.unusedSectionVars false
section
variable {S : Nat → Prop} {W w : World}
set_option maxRecDepth 20000 in
set_option maxHeartbeats 8000000 in
theorem fill_st (rb a x0 n ce m ca : Nat) (s : ByteArray) (l : List Ev) (at' : List Nat) (A : Option Addr) (h : St S W w [rdT rb s a, ownT 36 5 (.slice (some ⟨x0, 0, none⟩) n ce) n (evsV l), ownT 3 1 (.slice A m ca) m (ixV at')])
    (hs : s.size ≤ 4200000) (ha : a ≤ s.size) (hl : l.length = n) (hn6 : n ≤ 65536) (hm : at'.length = m) (hm6 : m ≤ 65536) (hv : VLok l) (hin : ∀ i, i < m → at'.getD i 0 < n) :
    Calls Tryz.prog 55 #[.pointer (some ⟨rb, 0, none⟩), .slice (some ⟨x0, 0, none⟩) n ce, .slice A m ca] w fun e w' =>
      (∃ l' a', fillJ s.data.toList at' 4 (l, a) = some (l', a') ∧ l'.length = n ∧ a' ≤ s.size ∧ VLok l' ∧ e = .returned (.bool true) ∧ St S W w' [rdT rb s a', ownT 36 5 (.slice (some ⟨x0, 0, none⟩) n ce) n (evsV l'), ownT 3 1 (.slice A m ca) m (ixV at')]) ∨
      (fillJ s.data.toList at' 4 (l, a) = none ∧ e = .returned (.bool false) ∧ St S W w' []) := by
  have H1 := Lib.hid (streams_st h)
  have HM := Lib.hid hm
  have HJ0 := Lib.hid (show fillJ s.data.toList at' 0 (l, a) = some (l, a) from rfl)
  have HV := Lib.hid hv
  have HL := Lib.hid hl
  clear hm hv hl h
  go_enter Tryz.func55, Tryz.ntmps55
  go_wp2_with fail
  refine H1.out.mono ?_
  rintro _ w1 ⟨g, b1, b2, b3, t1, t2, t3, rfl, h1⟩
  clear H1
  go_wp2_with fail
  go_loopw [18] (fun v18 wr => ∃ (j a' : Nat) (l' : List Ev), v18 = .int .i64 j ∧ j ≤ 4 ∧ a' ≤ s.size ∧ Hid (fillJ s.data.toList at' j (l, a) = some (l', a')) ∧ Hid (l'.length = n) ∧ Hid (VLok l') ∧ St S W wr [blkT g (strA b1 b2 b3) 73, blkT b3 #[fnV 70] t3, blkT b2 #[fnV 65] t2, blkT b1 #[fnV 62] t1, rdT rb s a', ownT 36 5 (.slice (some ⟨x0, 0, none⟩) n ce) n (evsV l'), ownT 3 1 (.slice A m ca) m (ixV at')]) (fun v18 _ => 4 - (intOf v18).toNat)
  case atStart => exact ⟨0, a, l, rfl, by omega, ha, HJ0, HL, HV, h1⟩
  case round =>
    clear h1 HJ0 HL HV ha
    obtain ⟨j, a', l', rfl, hj, ha, HJ, HL, HV, h⟩ := hrel
    by_cases hlt : j < 4
    · have hltj : (j : Int) < 4 := by omega
      have hl0 : (0 : Int) ≤ (j : Int) := by omega
      have HOK := Lib.hid (lay_ok b1 b2 b3 j hlt)
      have HFO := Lib.hid (fill_ok b1 b2 b3 j hlt)
      have HEN := Lib.hid (ent_ok b1 b2 b3 j hlt)
      have HSF := Lib.hid (show fillJ s.data.toList at' (j + 1) (l, a) = stepF (strm b1 b2 b3 j) s.data.toList at' (l', a') by rw [fillJ, HJ.out, stepF_strm b1 b2 b3 j]; rfl)
      have HNO := Lib.hid (fun q => fillJ_none s.data.toList at' (j + 1) (l, a) q (by omega))
      have k0 : wr.cell? ⟨g, j * 5, none⟩ = some (.func (.func (strm b1 b2 b3 j).fh) #[] (strm b1 b2 b3 j).cap) := by have := cell_of_heap h.blk (j * 5 + 0); rw [strA_cell b1 b2 b3 j 0 hlt (by omega)] at this; exact this
      have k1 : wr.cell? ⟨g, j * 5 + 1, none⟩ = some (fnV (strm b1 b2 b3 j).fl) := by have := cell_of_heap h.blk (j * 5 + 1); rw [strA_cell b1 b2 b3 j 1 hlt (by omega)] at this; exact this
      have k2 : wr.cell? ⟨g, j * 5 + 2, none⟩ = some (fnV (strm b1 b2 b3 j).fr) := by have := cell_of_heap h.blk (j * 5 + 2); rw [strA_cell b1 b2 b3 j 2 hlt (by omega)] at this; exact this
      have k3 : wr.cell? ⟨g, j * 5 + 3, none⟩ = some (fnV (strm b1 b2 b3 j).fg) := by have := cell_of_heap h.blk (j * 5 + 3); rw [strA_cell b1 b2 b3 j 3 hlt (by omega)] at this; exact this
      have k4 : wr.cell? ⟨g, j * 5 + 4, none⟩ = some (fnV (strm b1 b2 b3 j).fs) := by have := cell_of_heap h.blk (j * 5 + 4); rw [strA_cell b1 b2 b3 j 4 hlt (by omega)] at this; exact this
      have HCP : Hid (∀ (w' : World) (L : List Thing), St S W w' (blkT g (strA b1 b2 b3) 73 :: blkT b3 #[fnV 70] t3 :: blkT b2 #[fnV 65] t2 :: blkT b1 #[fnV 62] t1 :: L) → CapOK b1 b2 b3 w') := Lib.hid (fun w' L q => ⟨cell_of_heap (q.pull 3).blk 0, cell_of_heap (q.pull 2).blk 0, cell_of_heap (q.pull 1).blk 0⟩)
      generalize strm b1 b2 b3 j = x at *
      have h5 := h.alloc #[.nilFunc, .nilFunc, .nilFunc, .nilFunc, .nilFunc] 73
      have hq := Lib.hid h5.blk
      obtain ⟨w5, hw5, h6⟩ := name_world (P := fun y => St S W y _) (h5.row (strC x))
      have HW5 := Lib.hid hw5
      clear h5 hw5 h
      go_wp2_with (with_reducible refine (show wpList _ _ _ _ _ (World.alloc _ _) from ?_); refine wpList_store_row rfl _ _ _ rfl wr.heap.size (strC x) rfl rfl 73 #[.nilFunc, .nilFunc, .nilFunc, .nilFunc, .nilFunc] hq.out (by kernel_rfl) rfl (by simp [strC, fnV, Value.oneCell']) ?_; rw [HW5.out])
      generalize wr.heap.size = xb at h6 ⊢
      clear hq HW5 k0 k1 k2 k3 k4
      have h7 := h6.nilOwn 3 1
      clear h6
      go_loopw [9, 24] (fun v9 v24 wq => ∃ (q : Nat) (v : Value), q ≤ m ∧ v9 = v ∧ v24 = .int .i64 q ∧ St S W wq [ownT 3 1 v (inE x.P l' (at'.take q)).length (ixV (inE x.P l' (at'.take q))), blkT xb (strC x) 73, blkT g (strA b1 b2 b3) 73, blkT b3 #[fnV 70] t3, blkT b2 #[fnV 65] t2, blkT b1 #[fnV 62] t1, rdT rb s a', ownT 36 5 (.slice (some ⟨x0, 0, none⟩) n ce) n (evsV l'), ownT 3 1 (.slice A m ca) m (ixV at')]) (fun _ v24 _ => m - (intOf v24).toNat)
      case atStart => exact ⟨0, _, by omega, rfl, rfl, h7⟩
      case round =>
        clear h7
        obtain ⟨q, v, hq, rfl, rfl, h⟩ := hrel
        obtain ⟨A2, c2, rfl⟩ := h.own.form
        by_cases hqm : q < m
        · have hqmi : (q : Int) < (m : Int) := by omega
          have hq0 : (0 : Int) ≤ (q : Int) := by omega
          obtain ⟨ib, io, rfl, ci⟩ := (Own.irow (h.pull 8).own HM.out) q (by rw [HM.out]; exact hqm)
          have hin1 := hin q hqm
          have HPT := Lib.hid (inE_take x.P l' at' q (by rw [HM.out]; exact hqm))
          have hpl := inE_len x.P l' (at'.take q)
          rw [List.length_take] at hpl
          have ER := Own.erow (h.pull 7).own HL.out
          generalize at'.getD q 0 = i at *
          have hini : (i : Int) < (n : Int) := by omega
          have hi0 : (0 : Int) ≤ (i : Int) := by omega
          obtain ⟨eb, eo, he, e0, g1, _⟩ := ER i (by rw [HL.out]; exact hin1)
          cases he
          simp only [Nat.zero_add] at g1
          clear e0 ER
          generalize (l'.getD i default).kd = kd at *
          have hc9 := Lib.hid (HCP.out _ _ h.drop.drop)
          have d0 : _ = some (Value.func (.func x.fh) #[] x.cap) := cell_of_heap (h.pull 1).blk 0
          go_wp2_with fail
          have hS : (fun w' : World => Ext wr w') wr.drew := (Mut.refl noB wr).drew
          refine wp_region_held (S := fun w' : World => Ext wr w') (by kernel_rfl) ?_
          change wpAnyH _ _ _ _ _ _ _ _ (World.drew _)
          refine wpAnyH_take (i := 0) (v := ?_) rfl (by kernel_rfl) (by kernel_rfl) (by kernel_rfl) (fun _ _ _ h => h) (Or.inl ⟨by rfl, ?_⟩) hS ?_
          rotate_left
          · (intro w' hS'; have j0 := Ext.cell hS' d0; have j1 := Ext.cell hS' g1; go_simp; try with_reducible rfl)
          refine wpAnyH_take (i := 1) (v := ?_) rfl (by kernel_rfl) (by kernel_rfl) (by kernel_rfl) (fun _ _ _ h => h) (Or.inl ⟨by rfl, ?_⟩) hS ?_
          rotate_left
          · (intro w' hS'; have j0 := Ext.cell hS' d0; have j1 := Ext.cell hS' g1; go_simp; try with_reducible rfl)
          refine wpAnyH_take (i := 2) (v := ?_) rfl (by kernel_rfl) (by kernel_rfl) (by kernel_rfl) (fun _ _ _ h => h) (Or.inl ⟨by rfl, ?_⟩) hS ?_
          rotate_left
          · (intro w' hS'; have j0 := Ext.cell hS' d0; have j1 := Ext.cell hS' g1; go_simp; try with_reducible rfl)
          refine wpAnyH_take (i := 3) (v := ?_) rfl (by kernel_rfl) (by kernel_rfl) (by kernel_rfl) (fun _ _ _ h => h) (Or.inl ⟨by rfl, ?_⟩) hS ?_
          rotate_left
          · (intro w' hS'; have j0 := Ext.cell hS' d0; have j1 := Ext.cell hS' g1; go_simp; try with_reducible rfl)
          refine wpAnyH_take (i := 4) (v := ?_) rfl (by kernel_rfl) (by kernel_rfl) (by kernel_rfl) (fun _ _ _ h => h) (Or.inl ⟨by rfl, ?_⟩) hS ?_
          rotate_left
          · (intro w' hS'; have j0 := Ext.cell hS' d0; have j1 := Ext.cell hS' g1; go_simp; try with_reducible rfl)
          refine wpAnyH_take (i := 5) (v := ?_) rfl (by kernel_rfl) (by kernel_rfl) (by kernel_rfl) (fun _ _ _ h => h) (Or.inl ⟨by rfl, ?_⟩) hS ?_
          rotate_left
          · (intro w' hS'; have j0 := Ext.cell hS' d0; have j1 := Ext.cell hS' g1; go_simp; try with_reducible rfl)
          refine wpAnyH_take (i := 6) (v := ?_) rfl (by kernel_rfl) (by kernel_rfl) (by kernel_rfl) (fun _ _ _ h => h) (Or.inl ⟨by rfl, ?_⟩) hS ?_
          rotate_left
          · (intro w' hS'; have j0 := Ext.cell hS' d0; have j1 := Ext.cell hS' g1; go_simp; try with_reducible rfl)
          refine wpAnyH_ready (rs := [7]) (by kernel_rfl) (by simp) ?_
          refine AllReadyH.cons rfl (fun K hK => ?_) AllReadyH.nil
          have hent := HEN.out.h
          go_simp
          refine (HOK.out.has _ _ (CapOK.ext hc9.out hS)).mono ?_
          rintro _ w8 ⟨rfl, x8⟩
          replace hS : (fun w' : World => Ext wr w') w8 := Mut.trans hS x8
          refine hK.out _ _ hS (fun _ => ?_)
          clear hK K hent
          refine wpAnyH_done (by kernel_rfl) ?_ _
          have h9 := h.ext hS
          clear x8 hS h hc9 d0 g1
          obtain ⟨p, hp⟩ : ∃ p, x.P kd = p := ⟨_, rfl⟩
          have HPT2 := HPT.out
          rw [hp] at HPT2 ⊢
          clear hp HPT
          cases p
          · rw [if_neg (by decide), List.append_nil] at HPT2
            have h10 : St S W w8 [ownT 3 1 (.slice A2 (inE x.P l' (at'.take q)).length c2) (inE x.P l' (at'.take (q + 1))).length (ixV (inE x.P l' (at'.take (q + 1)))), blkT xb (strC x) 73, blkT g (strA b1 b2 b3) 73, blkT b3 #[fnV 70] t3, blkT b2 #[fnV 65] t2, blkT b1 #[fnV 62] t1, rdT rb s a', ownT 36 5 (.slice (some ⟨x0, 0, none⟩) n ce) n (evsV l'), ownT 3 1 (.slice (some ⟨ib, io, none⟩) m ca) m (ixV at')] := by rw [HPT2]; exact h9
            clear HPT2
            go_wp2_with fail
            exact ⟨⟨q + 1, _, by omega, rfl, by go_num, h10⟩, by simp only [intOf]; omega⟩
          · rw [if_pos rfl] at HPT2
            have HP2 := Lib.hid HPT2
            clear HPT2
            generalize inE x.P l' (at'.take q) = L0 at h9 HP2 hpl ⊢
            go_wp2_with (at_builtin; refine wpList_push rfl _ _ _ rfl 3 (.int .i64 0) 1 8 Tryz.underlying49 ix_info rfl (by decide) h9 rfl rfl rfl (ixV_one [i]) (by unfold maxLen; omega) (by omega) ?_; intro A' c' w10 h10)
            have h11 : St S W w10 [ownT 3 1 (.slice A' (L0.length + 1) c') (inE x.P l' (at'.take (q + 1))).length (ixV (inE x.P l' (at'.take (q + 1)))), blkT xb (strC x) 73, blkT g (strA b1 b2 b3) 73, blkT b3 #[fnV 70] t3, blkT b2 #[fnV 65] t2, blkT b1 #[fnV 62] t1, rdT rb s a', ownT 36 5 (.slice (some ⟨x0, 0, none⟩) n ce) n (evsV l'), ownT 3 1 (.slice (some ⟨ib, io, none⟩) m ca) m (ixV at')] := by
              rw [HP2.out, ixV_append, List.length_append]; exact h10
            go_roundw
            case rel => first | exact ⟨q + 1, _, by omega, rfl, by go_num, h11⟩ | ((repeat apply Exists.intro); exact ⟨⟨q + 1, _, by omega, rfl, by go_num, h11⟩, rfl⟩)
            case measure => simp [intOf]; omega
        · obtain rfl : q = m := by omega
          have hqmi : ¬ (q : Int) < (q : Int) := by omega
          have hT : at'.take q = at' := List.take_of_length_le (by rw [HM.out]; exact Nat.le_refl _)
          rw [hT] at h ⊢
          clear hT
          have hpl := inE_len x.P l' at'
          rw [HM.out] at hpl
          have hni := inE_in x.P l' at' n (by rw [HM.out]; exact hin)
          have hent := HEN.out.r
          have d1 : _ = some (Value.func (.func x.fr) #[] #[]) := cell_of_heap (h.pull 1).blk 2
          have HSF2 := HSF.out
          unfold stepF at HSF2
          dsimp only at HSF2
          generalize inE x.P l' at' = IS at *
          obtain ⟨k, hk⟩ : ∃ k, IS.length = k := ⟨_, rfl⟩
          rw [hk] at h HSF2 hni hpl ⊢
          have HK := Lib.hid hk
          have h8 := h.pull 6
          have hrd : (rdT rb s a').holds wr (fun k => k = rb) := ⟨h8.rd, rfl⟩
          have HRR := Lib.hid (HFO.out.read rb s a' k (St.one hrd) hs ha (by omega))
          have hft := HFO.out.fact s.data.toList a' k (by simpa using ha)
          obtain ⟨⟨ns, er, a2⟩, hR⟩ : ∃ R, x.R s.data.toList a' k = R := ⟨_, rfl⟩
          rw [hR] at HRR hft HSF2
          dsimp only at HRR hft HSF2
          have HSF := Lib.hid HSF2
          clear HSF2 hk hR hrd h
          go_wp2_with fail
          refine HRR.out.mono ?_
          rintro _ w2 ⟨v, rfl, h2⟩
          have h3 := St.frame h8 (L := [nlT v ns, rdT rb s a2]) (fun fp hfp => by rw [hfp.2]; exact h2)
          clear h2 h8 HRR hent d1
          obtain ⟨A3, c3, rfl⟩ := h3.own.form
          by_cases he : er = 0
          · subst he
            by_cases hnk : ns.length = k
            · rw [hnk] at h3
              have HSF2 := HSF.out
              rw [if_pos ⟨rfl, hnk⟩] at HSF2
              have HSF3 := Lib.hid HSF2
              clear HSF2 HSF HNO
              have HNK := Lib.hid hnk
              have HAL := Lib.hid hft.1
              have ha2 : a2 ≤ s.size := by simpa using hft.2.2
              clear hft hnk
              have h4 : St S W w2 [ownT 36 5 (.slice (some ⟨x0, 0, none⟩) n ce) n (evsV (setK x.U l' IS ns 0)), ownT 34 1 (.slice A3 k c3) k (numsV ns), rdT rb s a2, ownT 3 1 (.slice A2 k c2) k (ixV IS), blkT xb (strC x) 73, blkT g (strA b1 b2 b3) 73, blkT b3 #[fnV 70] t3, blkT b2 #[fnV 65] t2, blkT b1 #[fnV 62] t1, ownT 3 1 (.slice A q ca) q (ixV at')] := by
                rw [setK_zero]
                have h5 := h3.pull 8
                unfold nlT at h5
                rw [HNK.out] at h5
                exact h5
              clear h3
              rw [HNK.out]
              go_wp2_with fail
              go_loopw [61] (fun v61 wq => ∃ p : Nat, p ≤ k ∧ v61 = .int .i64 p ∧ Hid (VLok (setK x.U l' IS ns p)) ∧ St S W wq [ownT 36 5 (.slice (some ⟨x0, 0, none⟩) n ce) n (evsV (setK x.U l' IS ns p)), ownT 34 1 (.slice A3 k c3) k (numsV ns), rdT rb s a2, ownT 3 1 (.slice A2 k c2) k (ixV IS), blkT xb (strC x) 73, blkT g (strA b1 b2 b3) 73, blkT b3 #[fnV 70] t3, blkT b2 #[fnV 65] t2, blkT b1 #[fnV 62] t1, ownT 3 1 (.slice A q ca) q (ixV at')]) (fun v61 _ => k - (intOf v61).toNat)
              case atStart => exact ⟨0, by omega, rfl, Lib.hid (by rw [setK_zero]; exact HV.out), h4⟩
              case round =>
                clear h4
                obtain ⟨p, hp, rfl, HVL, h⟩ := hrel
                by_cases hpk : p < k
                · have hpki : (p : Int) < (k : Int) := by omega
                  have hp0 : (0 : Int) ≤ (p : Int) := by omega
                  obtain ⟨ib, io, rfl, ci⟩ := (Own.irow (h.pull 3).own HK.out) p (by rw [HK.out]; exact hpk)
                  obtain ⟨nb, no, rfl, cn⟩ := (Own.nrow (h.pull 1).own HNK.out) p (by rw [HNK.out]; exact hpk)
                  have hin1 := hni p hpk
                  have hlt64 := HAL.out p (by rw [HNK.out]; exact hpk)
                  have HST := Lib.hid (setK_succ x.U l' IS ns p (by rw [HK.out]; exact hpk) (by rw [HNK.out]; exact hpk))
                  have HLN := Lib.hid ((setK_len x.U l' IS ns p).trans HL.out)
                  generalize IS.getD p 0 = i at *
                  obtain ⟨nv, hnv⟩ : ∃ nv, ns.getD p 0 = nv := ⟨_, rfl⟩
                  rw [hnv] at cn hlt64 HST
                  have HNV := Lib.hid hnv
                  clear hnv
                  generalize setK x.U l' IS ns p = lp at *
                  have hini : (i : Int) < (n : Int) := by omega
                  have hi0 : (0 : Int) ≤ (i : Int) := by omega
                  have d0 : _ = some (Value.func (.func x.fs) #[] #[]) := cell_of_heap (h.pull 4).blk 4
                  have hvl2 := HFO.out.vl (lp.getD i default) nv (HVL.out i) hlt64
                  have HVL2 := Lib.hid (HVL.out.set i (x.U (lp.getD i default) nv) hvl2)
                  rw [← HST.out] at HVL2
                  go_wp2_with fail
                  have h8 := h.ext (Mut.refl noB wr).drew
                  have hS : (fun w' : World => w'.cell? ⟨xb, 4, none⟩ = some (Value.func (.func x.fs) #[] #[]) ∧ w'.cell? ⟨nb, no + p, none⟩ = some (.int .u64 (nv : Nat))) wr.drew := ⟨Ext.cell ((Mut.refl noB wr).drew) d0, Ext.cell ((Mut.refl noB wr).drew) cn⟩
                  refine wp_region_held (S := fun w' : World => w'.cell? ⟨xb, 4, none⟩ = some (Value.func (.func x.fs) #[] #[]) ∧ w'.cell? ⟨nb, no + p, none⟩ = some (.int .u64 (nv : Nat))) (by kernel_rfl) ?_
                  change wpAnyH _ _ _ _ _ _ _ _ (World.drew _)
                  refine wpAnyH_take (i := 0) (v := ?_) rfl (by kernel_rfl) (by kernel_rfl) (by kernel_rfl) (fun _ _ _ h => h) (Or.inl ⟨by rfl, ?_⟩) hS ?_
                  rotate_left
                  · (intro w' hS'; obtain ⟨j0, j1⟩ := hS'; go_simp; try with_reducible rfl)
                  refine wpAnyH_take (i := 1) (v := ?_) rfl (by kernel_rfl) (by kernel_rfl) (by kernel_rfl) (fun _ _ _ h => h) (Or.inl ⟨by rfl, ?_⟩) hS ?_
                  rotate_left
                  · (intro w' hS'; obtain ⟨j0, j1⟩ := hS'; go_simp; try with_reducible rfl)
                  refine wpAnyH_take (i := 2) (v := ?_) rfl (by kernel_rfl) (by kernel_rfl) (by kernel_rfl) (fun _ _ _ h => h) (Or.inl ⟨by rfl, ?_⟩) hS ?_
                  rotate_left
                  · (intro w' hS'; obtain ⟨j0, j1⟩ := hS'; go_simp; try with_reducible rfl)
                  refine wpAnyH_take (i := 3) (v := ?_) rfl (by kernel_rfl) (by kernel_rfl) (by kernel_rfl) (fun _ _ _ h => h) (Or.inl ⟨by rfl, ?_⟩) hS ?_
                  rotate_left
                  · (intro w' hS'; obtain ⟨j0, j1⟩ := hS'; go_simp; try with_reducible rfl)
                  refine wpAnyH_take (i := 4) (v := ?_) rfl (by kernel_rfl) (by kernel_rfl) (by kernel_rfl) (fun _ _ _ h => h) (Or.inl ⟨by rfl, ?_⟩) hS ?_
                  rotate_left
                  · (intro w' hS'; obtain ⟨j0, j1⟩ := hS'; go_simp; try with_reducible rfl)
                  refine wpAnyH_take (i := 5) (v := ?_) rfl (by kernel_rfl) (by kernel_rfl) (by kernel_rfl) (fun _ _ _ h => h) (Or.inl ⟨by rfl, ?_⟩) hS ?_
                  rotate_left
                  · (intro w' hS'; obtain ⟨j0, j1⟩ := hS'; go_simp; try with_reducible rfl)
                  refine wpAnyH_take (i := 6) (v := ?_) rfl (by kernel_rfl) (by kernel_rfl) (by kernel_rfl) (fun _ _ _ h => h) (Or.inl ⟨by rfl, ?_⟩) hS ?_
                  rotate_left
                  · (intro w' hS'; obtain ⟨j0, j1⟩ := hS'; go_simp; try with_reducible rfl)
                  refine wpAnyH_take (i := 7) (v := ?_) rfl (by kernel_rfl) (by kernel_rfl) (by kernel_rfl) (fun _ _ _ h => h) (Or.inl ⟨by rfl, ?_⟩) hS ?_
                  rotate_left
                  · (intro w' hS'; obtain ⟨j0, j1⟩ := hS'; go_simp; try with_reducible rfl)
                  refine wpAnyH_take (i := 8) (v := ?_) rfl (by kernel_rfl) (by kernel_rfl) (by kernel_rfl) (fun _ _ _ h => h) (Or.inl ⟨by rfl, ?_⟩) hS ?_
                  rotate_left
                  · (intro w' hS'; obtain ⟨j0, j1⟩ := hS'; go_simp; try with_reducible rfl)
                  refine wpAnyH_ready (rs := [9]) (by kernel_rfl) (by simp) ?_
                  refine AllReadyH.cons rfl (fun K hK => ?_) AllReadyH.nil
                  have hent := HEN.out.s
                  go_simp
                  refine (HFO.out.set x0 ce n lp i nv h8 HLN.out hin1 hlt64).mono ?_
                  rintro _ w8 ⟨rfl, h9⟩
                  rw [← HST.out] at h9
                  have cn2 : w8.cell? ⟨nb, no + p, none⟩ = some (.int .u64 (nv : Nat)) := by
                    obtain ⟨nb2, no2, e2, cn2⟩ := (Own.nrow (h9.pull 1).own HNK.out) p (by rw [HNK.out]; exact hpk)
                    cases e2
                    rw [HNV.out] at cn2
                    exact cn2
                  refine hK.out _ _ ⟨cell_of_heap (h9.pull 4).blk 4, cn2⟩ (fun _ => ?_)
                  clear hK K hent hS h8
                  refine wpAnyH_done (by kernel_rfl) ?_ _
                  go_wp2_with fail
                  exact ⟨⟨p + 1, by omega, by go_num, HVL2, h9⟩, by simp only [intOf]; omega⟩
                · obtain rfl : p = k := by omega
                  have hpki : ¬ (p : Int) < (p : Int) := by omega
                  have HE := Lib.hid (setK_all x.U l' IS ns p HK.out)
                  have HLN := Lib.hid ((setK_len x.U l' IS ns p).trans HL.out)
                  rw [HE.out] at h HVL HLN
                  have h5 := (((((((h.swap.drop).swap).pull 2).drop.pull 2).drop.pull 5).pull 5).pull 5).pull 5
                  go_wp2_with fail
                  exact ⟨⟨j + 1, a2, _, by go_num, by omega, ha2, HSF3, HLN, HVL, h5⟩, by simp only [intOf]; omega⟩
            · have hnki : ((ns.length : Int) != (k : Int)) = true := by rw [bne_iff_ne]; omega
              have HSF2 := HSF.out
              rw [if_neg (fun q => hnk q.2)] at HSF2
              have HF := Lib.hid (HNO.out HSF2)
              clear HSF2 HSF HNO hnk
              go_wp2_with fail
              go_ret
              exact .inr ⟨HF.out, rfl, h3.drop.drop.drop.drop.drop.drop.drop.drop.drop.drop⟩
          · have hne : ((er : Int) != 0) = true := by rw [bne_iff_ne]; omega
            have HSF2 := HSF.out
            rw [if_neg (fun q => he q.1)] at HSF2
            have HF := Lib.hid (HNO.out HSF2)
            clear HSF2 HSF HNO he
            go_wp2_with fail
            go_ret
            exact .inr ⟨HF.out, rfl, h3.drop.drop.drop.drop.drop.drop.drop.drop.drop.drop⟩
    · obtain rfl : j = 4 := by omega
      have hltj : ¬ ((4 : Nat) : Int) < 4 := by omega
      go_wp2_with fail
      go_ret
      exact .inl ⟨l', a', HJ.out, HL.out, ha, HV.out, rfl, h.drop.drop.drop.drop⟩
end
end Go.Proofs.YtjdglpngcdcneaaGreat
