/- Layer 21: a thread's events are laid. -/
import Derived.Test.YtjdglpngcdcneaaGreatEStrm
namespace Go.Proofs.YtjdglpngcdcneaaGreat
open Go.RowKit Go.WideShapes
set_option linter.unusedVariables false
set_option linter.unusedSimpArgs false
set_option linter.unusedSectionVars false
/-- places in memory -/
def IRow (w : World) (A : Option Addr) (l : List Nat) : Prop := ∀ i, i < l.length → ∃ b off, A = some ⟨b, off, none⟩ ∧ w.cell? ⟨b, off + i, none⟩ = some (.int .i64 (l.getD i 0 : Nat))
theorem IRow.ext {w w' : World} {A : Option Addr} {l : List Nat} (h : IRow w A l) (x : Ext w w') : IRow w' A l := fun i hi => by
  obtain ⟨b, off, e, hc⟩ := h i hi
  exact ⟨b, off, e, x.cell hc⟩
/-- the first j streams' bytes -/
def laid (l : List Ev) (at' : List Nat) : Nat → List UInt8
  | 0 => []
  | j + 1 => laid l at' j ++ (strm 0 0 0 j).B (part l at' (strm 0 0 0 j).P (strm 0 0 0 j).V)
theorem laid_all (l : List Ev) (at' : List Nat) : laid l at' 4 = layE l at' := by
  simp [laid, layE, strm, strm0, strm1, strm2, strm3]
theorem strm_P (b1 b2 b3 j : Nat) : (strm b1 b2 b3 j).P = (strm 0 0 0 j).P := by
  match j with
  | 0 | 1 | 2 | (n + 3) => rfl
theorem strm_V (b1 b2 b3 j : Nat) : (strm b1 b2 b3 j).V = (strm 0 0 0 j).V := by
  match j with
  | 0 | 1 | 2 | (n + 3) => rfl
theorem strm_B (b1 b2 b3 j : Nat) : (strm b1 b2 b3 j).B = (strm 0 0 0 j).B := by
  match j with
  | 0 | 1 | 2 | (n + 3) => rfl
set_option maxRecDepth 20000 in
set_option maxHeartbeats 8000000 in
theorem lay_any (A : Option Addr) (ca n : Nat) (l : List Ev) (w : World) (hn : l.length = n) (hn6 : n ≤ 65536) (hr : ERow w A l) (hR : ∀ i, i < n → rightE (l.getD i default)) (hV : ∀ i, i < n → (l.getD i default).vl < 18446744073709551616)
    (B : Option Addr) (cb m : Nat) (at' : List Nat) (hm : at'.length = m) (hm6 : m ≤ 65536) (hI : IRow w B at') (hin : ∀ i, i < m → at'.getD i 0 < n) :
    Calls Tryz.prog 20 #[.slice A n ca, .slice B m cb] w fun e w' => e = .returned (.string ⟨(layE l at').toArray⟩) ∧ Ext w w' := by
  have h0 := (St.start noB w).newWr
  have H1 := Lib.hid (streams_st h0)
  have HM := Lib.hid hm
  have HLA := Lib.hid (laid_all l at')
  generalize layE l at' = R at HLA ⊢
  clear hm
  go_enter Tryz.func20, Tryz.ntmps20
  go_wp2_with fail
  refine H1.out.mono ?_
  rintro _ w1 ⟨g, b1, b2, b3, t1, t2, t3, rfl, h1⟩
  clear H1 h0
  go_wp2_with fail
  generalize w.heap.size = wb at h1 ⊢
  go_loopw [13] (fun v13 wr => ∃ j : Nat, v13 = .int .i64 j ∧ j ≤ 4 ∧ (laid l at' j).length ≤ j * (10 + 13 * m) ∧ St noB w wr [blkT g (strA b1 b2 b3) 73, blkT b3 #[fnV 70] t3, blkT b2 #[fnV 65] t2, blkT b1 #[fnV 62] t1, wrT wb (laid l at' j)]) (fun v13 _ => 4 - (intOf v13).toNat)
  case atStart => exact ⟨0, rfl, by omega, by simp [laid], h1⟩
  case round =>
    clear h1
    obtain ⟨j, rfl, hj, hlen, h⟩ := hrel
    by_cases hlt : j < 4
    · have hltj : (j : Int) < 4 := by omega
      have hl0 : (0 : Int) ≤ (j : Int) := by omega
      have HOK := Lib.hid (lay_ok b1 b2 b3 j hlt)
      have HEN := Lib.hid (ent_ok b1 b2 b3 j hlt)
      have HLD : Hid (laid l at' (j + 1) = laid l at' j ++ (strm b1 b2 b3 j).B (part l at' (strm b1 b2 b3 j).P (strm b1 b2 b3 j).V)) := Lib.hid (by rw [strm_B, strm_P, strm_V]; rfl)
      have k0 : wr.cell? ⟨g, j * 5, none⟩ = some (.func (.func (strm b1 b2 b3 j).fh) #[] (strm b1 b2 b3 j).cap) := by have := cell_of_heap h.blk (j * 5 + 0); rw [strA_cell b1 b2 b3 j 0 hlt (by omega)] at this; exact this
      have k1 : wr.cell? ⟨g, j * 5 + 1, none⟩ = some (fnV (strm b1 b2 b3 j).fl) := by have := cell_of_heap h.blk (j * 5 + 1); rw [strA_cell b1 b2 b3 j 1 hlt (by omega)] at this; exact this
      have k2 : wr.cell? ⟨g, j * 5 + 2, none⟩ = some (fnV (strm b1 b2 b3 j).fr) := by have := cell_of_heap h.blk (j * 5 + 2); rw [strA_cell b1 b2 b3 j 2 hlt (by omega)] at this; exact this
      have k3 : wr.cell? ⟨g, j * 5 + 3, none⟩ = some (fnV (strm b1 b2 b3 j).fg) := by have := cell_of_heap h.blk (j * 5 + 3); rw [strA_cell b1 b2 b3 j 3 hlt (by omega)] at this; exact this
      have k4 : wr.cell? ⟨g, j * 5 + 4, none⟩ = some (fnV (strm b1 b2 b3 j).fs) := by have := cell_of_heap h.blk (j * 5 + 4); rw [strA_cell b1 b2 b3 j 4 hlt (by omega)] at this; exact this
      have HCP : Hid (∀ (w' : World) (L : List Thing), St noB w w' (blkT g (strA b1 b2 b3) 73 :: blkT b3 #[fnV 70] t3 :: blkT b2 #[fnV 65] t2 :: blkT b1 #[fnV 62] t1 :: L) → CapOK b1 b2 b3 w') := Lib.hid (fun w' L q => ⟨cell_of_heap (q.pull 3).blk 0, cell_of_heap (q.pull 2).blk 0, cell_of_heap (q.pull 1).blk 0⟩)
      generalize strm b1 b2 b3 j = x at *
      have h5 := h.alloc #[.nilFunc, .nilFunc, .nilFunc, .nilFunc, .nilFunc] 73
      have hq := Lib.hid h5.blk
      obtain ⟨w5, hw5, h6⟩ := name_world (P := fun y => St noB w y _) (h5.row (strC x))
      have HW5 := Lib.hid hw5
      clear h5 hw5 h
      go_wp2_with (with_reducible refine (show wpList _ _ _ _ _ (World.alloc _ _) from ?_); refine wpList_store_row rfl _ _ _ rfl wr.heap.size (strC x) rfl rfl 73 #[.nilFunc, .nilFunc, .nilFunc, .nilFunc, .nilFunc] hq.out (by kernel_rfl) rfl (by simp [strC, fnV, Value.oneCell']) ?_; rw [HW5.out])
      generalize wr.heap.size = xb at h6 ⊢
      clear hq HW5 k0 k1 k2 k3 k4
      have h7 := h6.nilOwn 34 1
      clear h6
      go_loopw [8, 19] (fun v8 v19 wq => ∃ (q : Nat) (v : Value), q ≤ m ∧ v8 = v ∧ v19 = .int .i64 q ∧ St noB w wq [ownT 34 1 v (part l (at'.take q) x.P x.V).length (numsV (part l (at'.take q) x.P x.V)), blkT xb (strC x) 73, blkT g (strA b1 b2 b3) 73, blkT b3 #[fnV 70] t3, blkT b2 #[fnV 65] t2, blkT b1 #[fnV 62] t1, wrT wb (laid l at' j)]) (fun _ v19 _ => m - (intOf v19).toNat)
      case atStart => exact ⟨0, _, by omega, rfl, rfl, h7⟩
      case round =>
        clear h7
        obtain ⟨q, v, hq, rfl, rfl, h⟩ := hrel
        obtain ⟨A2, c2, rfl⟩ := h.own.form
        by_cases hqm : q < m
        · have hqmi : (q : Int) < (m : Int) := by omega
          have hq0 : (0 : Int) ≤ (q : Int) := by omega
          obtain ⟨ib, io, rfl, ci⟩ := (hI.ext h.ends) q (by rw [HM.out]; exact hqm)
          have hin1 := hin q hqm
          have HPT := Lib.hid (part_take l at' x.P x.V q (by rw [HM.out]; exact hqm))
          generalize at'.getD q 0 = i at *
          have hini : (i : Int) < (n : Int) := by omega
          have hi0 : (0 : Int) ≤ (i : Int) := by omega
          obtain ⟨eb, eo, rfl, e0, e1, e2, e3, e4⟩ := hr i (by omega)
          have hex := h.ends
          have g1 := Ext.cell hex e1
          have hRi := hR i hin1
          generalize l.getD i default = ev at *
          have hc9 := Lib.hid (HCP.out _ _ h.drop.drop)
          have d0 : _ = some (Value.func (.func x.fh) #[] x.cap) := cell_of_heap (h.pull 1).blk 0
          go_wp2_with fail
          have hS : (fun w' : World => Ext wr w') wr.drew := (Mut.refl noB wr).drew
          refine wp_region_held (S := fun w' : World => Ext wr w') (by kernel_rfl) ?_
          change wpAnyH _ _ _ _ _ _ _ _ (World.drew _)
          refine wpAnyH_take (i := 0) (v := ?_) rfl (by kernel_rfl) (by kernel_rfl) (by kernel_rfl) (fun _ _ _ h => h) (Or.inl ⟨by rfl, ?_⟩) hS ?_
          rotate_left
          · (intro w' hS'; have j0 := Ext.cell hS' d0; have j1 := Ext.cell hS' g1; go_simp; try with_reducible rfl)
          refine wpAnyH_take (i := 1) (v := ?_) rfl (by kernel_rfl) (by kernel_rfl) (by kernel_rfl) (fun _ _ _ h => h) (Or.inl ⟨by rfl, ?_⟩) hS ?_
          rotate_left
          · (intro w' hS'; have j0 := Ext.cell hS' d0; have j1 := Ext.cell hS' g1; go_simp; try with_reducible rfl)
          refine wpAnyH_take (i := 2) (v := ?_) rfl (by kernel_rfl) (by kernel_rfl) (by kernel_rfl) (fun _ _ _ h => h) (Or.inl ⟨by rfl, ?_⟩) hS ?_
          rotate_left
          · (intro w' hS'; have j0 := Ext.cell hS' d0; have j1 := Ext.cell hS' g1; go_simp; try with_reducible rfl)
          refine wpAnyH_take (i := 3) (v := ?_) rfl (by kernel_rfl) (by kernel_rfl) (by kernel_rfl) (fun _ _ _ h => h) (Or.inl ⟨by rfl, ?_⟩) hS ?_
          rotate_left
          · (intro w' hS'; have j0 := Ext.cell hS' d0; have j1 := Ext.cell hS' g1; go_simp; try with_reducible rfl)
          refine wpAnyH_take (i := 4) (v := ?_) rfl (by kernel_rfl) (by kernel_rfl) (by kernel_rfl) (fun _ _ _ h => h) (Or.inl ⟨by rfl, ?_⟩) hS ?_
          rotate_left
          · (intro w' hS'; have j0 := Ext.cell hS' d0; have j1 := Ext.cell hS' g1; go_simp; try with_reducible rfl)
          refine wpAnyH_take (i := 5) (v := ?_) rfl (by kernel_rfl) (by kernel_rfl) (by kernel_rfl) (fun _ _ _ h => h) (Or.inl ⟨by rfl, ?_⟩) hS ?_
          rotate_left
          · (intro w' hS'; have j0 := Ext.cell hS' d0; have j1 := Ext.cell hS' g1; go_simp; try with_reducible rfl)
          refine wpAnyH_take (i := 6) (v := ?_) rfl (by kernel_rfl) (by kernel_rfl) (by kernel_rfl) (fun _ _ _ h => h) (Or.inl ⟨by rfl, ?_⟩) hS ?_
          rotate_left
          · (intro w' hS'; have j0 := Ext.cell hS' d0; have j1 := Ext.cell hS' g1; go_simp; try with_reducible rfl)
          refine wpAnyH_ready (rs := [7]) (by kernel_rfl) (by simp) ?_
          refine AllReadyH.cons rfl (fun K hK => ?_) AllReadyH.nil
          have hent := HEN.out.h
          go_simp
          refine (HOK.out.has _ _ (CapOK.ext hc9.out hS)).mono ?_
          rintro _ w8 ⟨rfl, x8⟩
          replace hS : (fun w' : World => Ext wr w') w8 := Mut.trans hS x8
          refine hK.out _ _ hS (fun _ => ?_)
          clear hK K hent
          refine wpAnyH_done (by kernel_rfl) ?_ _
          have h9 := h.ext hS
          have d3 : _ = some (Value.func (.func x.fg) #[] #[]) := cell_of_heap (h9.pull 1).blk 3
          clear x8 hS h hc9 d0 g1 hex
          have hex := h9.ends
          obtain ⟨p, hp⟩ : ∃ p, x.P ev.kd = p := ⟨_, rfl⟩
          have HPT2 := HPT.out
          rw [hp] at HPT2 ⊢
          clear hp HPT
          cases p
          · rw [if_neg (by decide), List.append_nil] at HPT2
            have h10 : St noB w w8 [ownT 34 1 (.slice A2 (part l (at'.take q) x.P x.V).length c2) (part l (at'.take (q + 1)) x.P x.V).length (numsV (part l (at'.take (q + 1)) x.P x.V)), blkT xb (strC x) 73, blkT g (strA b1 b2 b3) 73, blkT b3 #[fnV 70] t3, blkT b2 #[fnV 65] t2, blkT b1 #[fnV 62] t1, wrT wb (laid l at' j)] := by rw [HPT2]; exact h9
            clear HPT2
            go_wp2_with fail
            exact ⟨⟨q + 1, _, by omega, rfl, by go_num, h10⟩, by simp only [intOf]; omega⟩
          · rw [if_pos rfl] at HPT2
            have HP2 := Lib.hid HPT2
            clear HPT2
            have hpl := part_len l (at'.take q) x.P x.V
            rw [List.length_take] at hpl
            have HV := Lib.hid (HOK.out.get · ev hRi)
            generalize x.V ev = xv at HP2 HV
            generalize part l (at'.take q) x.P x.V = L0 at h9 HP2 hpl ⊢
            go_wp2_with fail
            have hS : (fun w' : World => Ext w w' ∧ w'.cell? ⟨xb, 3, none⟩ = some (Value.func (.func x.fg) #[] #[])) w8.drew := ⟨hex.trans ((Mut.refl noB w8).drew), Ext.cell ((Mut.refl noB w8).drew) d3⟩
            refine wp_region_held (S := (fun w' : World => Ext w w' ∧ w'.cell? ⟨xb, 3, none⟩ = some (Value.func (.func x.fg) #[] #[]))) (by kernel_rfl) ?_
            change wpAnyH _ _ _ _ _ _ _ _ (World.drew _)
            refine wpAnyH_take (i := 0) (v := ?_) rfl (by kernel_rfl) (by kernel_rfl) (by kernel_rfl) (fun _ _ _ h => h) (Or.inl ⟨by rfl, ?_⟩) hS ?_
            rotate_left
            · (intro w' hS'; obtain ⟨hx', j5⟩ := hS'; have j0 := Ext.cell hx' e0; have j1 := Ext.cell hx' e1; have j2 := Ext.cell hx' e2; have j3 := Ext.cell hx' e3; have j4 := Ext.cell hx' e4; go_simp; try with_reducible rfl)
            refine wpAnyH_take (i := 1) (v := ?_) rfl (by kernel_rfl) (by kernel_rfl) (by kernel_rfl) (fun _ _ _ h => h) (Or.inl ⟨by rfl, ?_⟩) hS ?_
            rotate_left
            · (intro w' hS'; obtain ⟨hx', j5⟩ := hS'; have j0 := Ext.cell hx' e0; have j1 := Ext.cell hx' e1; have j2 := Ext.cell hx' e2; have j3 := Ext.cell hx' e3; have j4 := Ext.cell hx' e4; go_simp; try with_reducible rfl)
            refine wpAnyH_take (i := 2) (v := ?_) rfl (by kernel_rfl) (by kernel_rfl) (by kernel_rfl) (fun _ _ _ h => h) (Or.inl ⟨by rfl, ?_⟩) hS ?_
            rotate_left
            · (intro w' hS'; obtain ⟨hx', j5⟩ := hS'; have j0 := Ext.cell hx' e0; have j1 := Ext.cell hx' e1; have j2 := Ext.cell hx' e2; have j3 := Ext.cell hx' e3; have j4 := Ext.cell hx' e4; go_simp; try with_reducible rfl)
            refine wpAnyH_take (i := 3) (v := ?_) rfl (by kernel_rfl) (by kernel_rfl) (by kernel_rfl) (fun _ _ _ h => h) (Or.inl ⟨by rfl, ?_⟩) hS ?_
            rotate_left
            · (intro w' hS'; obtain ⟨hx', j5⟩ := hS'; have j0 := Ext.cell hx' e0; have j1 := Ext.cell hx' e1; have j2 := Ext.cell hx' e2; have j3 := Ext.cell hx' e3; have j4 := Ext.cell hx' e4; go_simp; try with_reducible rfl)
            refine wpAnyH_take (i := 4) (v := ?_) rfl (by kernel_rfl) (by kernel_rfl) (by kernel_rfl) (fun _ _ _ h => h) (Or.inl ⟨by rfl, ?_⟩) hS ?_
            rotate_left
            · (intro w' hS'; obtain ⟨hx', j5⟩ := hS'; have j0 := Ext.cell hx' e0; have j1 := Ext.cell hx' e1; have j2 := Ext.cell hx' e2; have j3 := Ext.cell hx' e3; have j4 := Ext.cell hx' e4; go_simp; try with_reducible rfl)
            refine wpAnyH_take (i := 5) (v := ?_) rfl (by kernel_rfl) (by kernel_rfl) (by kernel_rfl) (fun _ _ _ h => h) (Or.inl ⟨by rfl, ?_⟩) hS ?_
            rotate_left
            · (intro w' hS'; obtain ⟨hx', j5⟩ := hS'; have j0 := Ext.cell hx' e0; have j1 := Ext.cell hx' e1; have j2 := Ext.cell hx' e2; have j3 := Ext.cell hx' e3; have j4 := Ext.cell hx' e4; go_simp; try with_reducible rfl)
            refine wpAnyH_take (i := 6) (v := ?_) rfl (by kernel_rfl) (by kernel_rfl) (by kernel_rfl) (fun _ _ _ h => h) (Or.inl ⟨by rfl, ?_⟩) hS ?_
            rotate_left
            · (intro w' hS'; obtain ⟨hx', j5⟩ := hS'; have j0 := Ext.cell hx' e0; have j1 := Ext.cell hx' e1; have j2 := Ext.cell hx' e2; have j3 := Ext.cell hx' e3; have j4 := Ext.cell hx' e4; go_simp; try with_reducible rfl)
            refine wpAnyH_ready (rs := [7]) (by kernel_rfl) (by simp) ?_
            refine AllReadyH.cons rfl (fun K hK => ?_) AllReadyH.nil
            have hent := HEN.out.g
            go_simp
            refine (HV.out _).mono ?_
            rintro _ wa ⟨rfl, xa⟩
            have hxa : Ext w8 wa := Mut.trans ((Mut.refl noB w8).drew) xa
            replace hS : (fun w' : World => Ext w w' ∧ w'.cell? ⟨xb, 3, none⟩ = some (Value.func (.func x.fg) #[] #[])) wa := ⟨hex.trans hxa, Ext.cell hxa d3⟩
            refine hK.out _ _ hS (fun _ => ?_)
            clear hK K hent
            have ha := h9.ext hxa
            refine wpAnyH_ready (rs := [8]) (by kernel_rfl) (by simp) ?_
            refine AllReadyH.cons rfl (fun K hK => ?_) AllReadyH.nil
            go_simp
            refine hK.out _ _ ⟨Mut.alloc hS.1 _, Ext.cell (Mut.alloc (Mut.refl noB wa) _) hS.2⟩ (fun _ => ?_)
            clear hK K
            refine wpAnyH_ready (rs := [9]) (by kernel_rfl) (by simp) ?_
            refine AllReadyH.cons rfl (fun K hK => ?_) AllReadyH.nil
            refine step_push rfl _ _ _ rfl 34 (.int .u64 0) 1 8 Tryz.underlying46 u64_info rfl (by decide) ha rfl rfl rfl (numsV_one [xv]) (by unfold maxLen; omega) (by omega) ?_
            intro A' c' w10 hb
            refine hK.out _ _ ⟨hb.ends, cell_of_heap (hb.pull 1).blk 3⟩ (fun _ => ?_)
            clear hK K
            refine wpAnyH_ready (rs := [10]) (by kernel_rfl) (by simp) ?_
            refine AllReadyH.cons rfl (fun K hK => ?_) AllReadyH.nil
            go_simp
            refine hK.out _ _ ⟨hb.ends, cell_of_heap (hb.pull 1).blk 3⟩ (fun _ => ?_)
            clear hK K
            refine wpAnyH_done (by kernel_rfl) ?_ _
            have h10 : St noB w w10 [ownT 34 1 (.slice A' (L0.length + 1) c') (part l (at'.take (q + 1)) x.P x.V).length (numsV (part l (at'.take (q + 1)) x.P x.V)), blkT xb (strC x) 73, blkT g (strA b1 b2 b3) 73, blkT b3 #[fnV 70] t3, blkT b2 #[fnV 65] t2, blkT b1 #[fnV 62] t1, wrT wb (laid l at' j)] := by
              rw [HP2.out, numsV_append, List.length_append]; exact hb
            go_wp2_with fail
            exact ⟨⟨q + 1, _, by omega, rfl, by go_num, h10⟩, by simp only [intOf]; omega⟩
        · obtain rfl : q = m := by omega
          have hqmi : ¬ (q : Int) < (q : Int) := by omega
          have hT : at'.take q = at' := List.take_of_length_le (by rw [HM.out]; exact Nat.le_refl _)
          rw [hT] at h ⊢
          clear hT
          have hpl := part_len l at' x.P x.V
          rw [HM.out] at hpl
          have hnr := Own.nrow h.own rfl
          have hent := HEN.out.l
          have d1 : _ = some (Value.func (.func x.fl) #[] #[]) := cell_of_heap (h.pull 1).blk 1
          have hAL : AllLt (part l at' x.P x.V) := fun i hi => by
            have h1 : (part l at' x.P x.V).getD i 0 ∈ part l at' x.P x.V := by rw [List.getD_eq_getElem?_getD, List.getElem?_eq_getElem hi]; exact List.getElem_mem hi
            obtain ⟨a, ha, e⟩ := List.mem_map.1 h1
            obtain ⟨k, hk, e2⟩ := List.mem_iff_getElem.1 (List.mem_filter.1 ha).1
            have h2 := hin k (by rw [← HM.out]; exact hk)
            rw [List.getD_eq_getElem?_getD, List.getElem?_eq_getElem hk, Option.getD_some, e2] at h2
            rw [← e]
            exact HOK.out.vlt _ (hR a h2) (hV a h2)
          have HLY := Lib.hid (HOK.out.lay wr A2 c2 _ _ rfl (by omega) hnr hAL)
          have hBl := HOK.out.len _ hAL (by omega)
          generalize part l at' x.P x.V = L0 at *
          generalize x.B L0 = BB at *
          have hmul : j * (10 + 13 * q) ≤ 3 * (10 + 13 * q) := Nat.mul_le_mul_right _ (by omega)
          go_wp2_with fail
          refine HLY.out.mono ?_
          rintro _ w3 ⟨rfl, x3⟩
          have h8 := (h.ext x3).pull 6
          go_wp2_with fail
          refine (text_st h8 ⟨BB.toArray⟩ (by rw [bytes_size]; omega)).mono ?_
          rintro _ w4 ⟨rfl, h9⟩
          have h10 : St noB w w4 [blkT g (strA b1 b2 b3) 73, blkT b3 #[fnV 70] t3, blkT b2 #[fnV 65] t2, blkT b1 #[fnV 62] t1, wrT wb (laid l at' (j + 1))] := by
            rw [HLD.out]
            exact ((((h9.swap.drop.swap.drop).pull 4).pull 4).pull 4).pull 4
          have hlen2 : (laid l at' (j + 1)).length ≤ (j + 1) * (10 + 13 * q) := by
            rw [HLD.out, List.length_append, Nat.add_mul]; omega
          go_wp2_with fail
          exact ⟨⟨j + 1, by go_num, by omega, hlen2, h10⟩, by simp only [intOf]; omega⟩
    · obtain rfl : j = 4 := by omega
      have hltj : ¬ ((4 : Nat) : Int) < 4 := by omega
      rw [HLA.out] at h
      have HS := Lib.hid (str_st (h.pull 4))
      go_wp2_with (go_at_call 21; refine HS.out.mono ?_; rintro e w3 ⟨rfl, rfl⟩)
      go_ret
      exact ⟨rfl, h.ends⟩
end Go.Proofs.YtjdglpngcdcneaaGreat
