/- Layer 7, the document's: Pack. -/
import Derived.Test.YtjdglpngcdcneaaGreatHRefW
import Derived.Test.YtjdglpngcdcneaaGreatHg
import Derived.Test.YtjdglpngcdcneaaGreatHh
namespace Go.Proofs.YtjdglpngcdcneaaGreat
open Go.RowKit Go.WideShapes
set_option linter.unusedVariables false
set_option linter.unusedSimpArgs false
set_option linter.unusedSectionVars false
theorem lensL_take (t : Nat → Nat) (i : Nat) (h : i < 256) : (lensL t).take (i + 1) = (lensL t).take i ++ [t i] := by
  unfold lensL
  rw [List.take_succ_eq_append_getElem (by simpa using h), List.getElem_map, List.getElem_range]
theorem lensL_take_len (t : Nat → Nat) (i : Nat) (h : i ≤ 256) : ((lensL t).take i).length = i := by unfold lensL; simp; omega
theorem lensL_all (t : Nat → Nat) : (lensL t).take 256 = lensL t := List.take_of_length_le (by unfold lensL; simp)
theorem bitsP_snoc (L C : Nat → Nat) (l : List UInt8) (x : UInt8) : bitsP L C (l ++ [x]) = bitsP L C l ++ bitsOf (C x.toNat) (L x.toNat) := by unfold bitsP; rw [List.flatMap_append, List.flatMap_singleton]
set_option maxRecDepth 20000 in
set_option maxHeartbeats 2000000 in
theorem rpack_any (s : ByteArray) (hs : s.size ≤ 8000) (w : World) :
    Calls Tryz.prog 26 #[.string s] w fun e w' => e = .returned (.string ⟨(packP s.data.toList).toArray⟩) ∧ Ext w w' := by
  have hsz : s.data.toList.length = s.size := by simp
  have hf : ∀ i, cntF s.data.toList i < 18446744073709551616 := fun i => by
    have := cntF_le s.data.toList i
    omega
  have hL56 := lenT_text (l := s.data.toList) (by omega)
  have hE := codE_text (l := s.data.toList) (by omega)
  have HCt := Lib.hid (rcount_any s (by omega) w)
  have HLn := Lib.hid (fun w => rlengths_any (cntF s.data.toList) hf w)
  have HP : Hid (packP s.data.toList = vb s.data.toList.length ++ rbl (pk (lensL (lenT (cntF s.data.toList)))) ++ pack (bitsP (lenT (cntF s.data.toList)) (codT (lenT (cntF s.data.toList))) s.data.toList)) := Lib.hid rfl
  generalize packP s.data.toList = R at HP ⊢
  generalize lenT (cntF s.data.toList) = L at HLn HP hL56 hE
  generalize cntF s.data.toList = f at HCt HLn
  have hL8 : ∀ i, L i < 256 := fun i => by have := hL56 i; omega
  have HCo := Lib.hid (fun w => rcodes_any L (fun i _ => hL8 i) w)
  have hC := codT_lt L
  have hCe : codT L = reC L := by unfold codT; rw [if_pos hE]; rfl
  rw [hCe] at HP hC
  generalize reC L = C at HP HCo hC
  clear hf hCe hE
  go_enter Tryz.func26, Tryz.ntmps26
  go_wp2_with fail
  refine HCt.out.mono ?_
  rintro _ w1 ⟨rfl, x1⟩
  go_wp2_with fail
  refine (HLn.out w1).mono ?_
  rintro _ w2 ⟨rfl, x2⟩
  clear HCt HLn
  have x3 := x1.trans x2
  have h1 := ((St.start noB w).ext x3).alloc (tabV .u8 (fun _ => 0)) 74
  have hz := zero8
  have hq := Lib.hid h1.blk
  have h2 := h1.row (tabV .u8 L)
  obtain ⟨w3, hw3, h3⟩ := name_world (P := fun x => St noB w x _) h2
  have HW3 := Lib.hid hw3
  clear h1 h2 hw3 x1 x2 x3
  have hq3 := Lib.hid h3.blk
  go_wp2_with (first
    | (with_reducible refine (show wpList _ _ _ _ _ (World.alloc _ _) from ?_); refine wpList_store_row rfl _ _ _ rfl w2.heap.size (tabV .u8 L) rfl rfl 74 (tabV .u8 (fun _ => 0)) hq.out (size8 _) (tabV_sizes _ _ _) (tabV_one _ _) ?_; rw [HW3.out])
    | (refine wpList_load_row rfl _ _ rfl w2.heap.size rfl 74 (tabV .u8 L) (0, 0) (.array 256 5) hq3.out Tryz.underlying74 rfl (size8 _) ?_))
  refine (HCo.out w3).mono ?_
  rintro _ w4 ⟨rfl, x4⟩
  generalize w2.heap.size = lb at h3 ⊢
  clear hq HW3 hq3 HCo hz
  have h1 := (h3.ext x4).alloc (tabV .u64 (fun _ => 0)) 76
  have hz := zero64
  have hq := Lib.hid h1.blk
  have h2 := h1.row (tabV .u64 C)
  obtain ⟨w5, hw5, h5⟩ := name_world (P := fun x => St noB w x _) h2
  have HW5 := Lib.hid hw5
  clear h1 h2 hw5 x4 h3
  go_wp2_with (with_reducible refine (show wpList _ _ _ _ _ (World.alloc _ _) from ?_); refine wpList_store_row rfl _ _ _ rfl w4.heap.size (tabV .u64 C) rfl rfl 76 (tabV .u64 (fun _ => 0)) hq.out (size64 _) (tabV_sizes _ _ _) (tabV_one _ _) ?_; rw [HW5.out])
  generalize w4.heap.size = cb at h5 ⊢
  have h6 := h5.nilOwn 34 1
  clear HW5 hq hz h5
  go_loopw [5, 6] (fun v5 v6 wr => ∃ (i : Nat) (v : Value), i ≤ 256 ∧ v5 = v ∧ v6 = .int .i64 i ∧ St noB w wr [ownT 34 1 v i (numsV ((lensL L).take i)), blkT cb (tabV .u64 C) 76, blkT lb (tabV .u8 L) 74]) (fun _ v6 _ => 256 - (intOf v6).toNat)
  case atStart => exact ⟨0, _, by omega, rfl, rfl, by simpa [numsV] using h6⟩
  case round =>
    clear h6
    obtain ⟨i, v, hi, rfl, rfl, h⟩ := hrel
    obtain ⟨A, cap, rfl⟩ := h.own.form
    by_cases hlt : i < 256
    · have hl1 : (i : Int) < 256 := by omega
      have kl := cell_of_heap (h.pull 2).blk i
      rw [tabV_get _ _ _ hlt] at kl
      have hLi := hL8 i
      have HN := Lib.hid (lensL_take L i hlt)
      generalize (lensL L).take i = l0 at h HN
      obtain ⟨x, hx⟩ : ∃ x, L i = x := ⟨_, rfl⟩
      rw [hx] at kl hLi HN
      clear hx
      have hw : IntKind.u64.wrap (x : Int) = (x : Int) := by rw [IntKind.wrap_u64]; omega
      go_wp2_with (at_builtin; refine wpList_push rfl _ _ _ rfl 34 (.int .u64 0) 1 8 Tryz.underlying46 u64_info rfl (by decide) h rfl rfl rfl (numsV_one [x]) (by unfold maxLen; omega) (by omega) ?_; intro A' c' w6 h6)
      have h7 : St noB w w6 [ownT 34 1 (.slice A' (i + 1) c') (i + 1) (numsV ((lensL L).take (i + 1))), blkT cb (tabV .u64 C) 76, blkT lb (tabV .u8 L) 74] := by
        rw [HN.out, numsV_append]; exact h6
      go_roundw
      case rel => first | exact ⟨i + 1, _, by omega, rfl, by go_num, h7⟩ | ((repeat apply Exists.intro); exact ⟨⟨i + 1, _, by omega, rfl, by go_num, h7⟩, rfl⟩)
      case measure => simp [intOf]; omega
    · obtain rfl : i = 256 := by omega
      have hl1 : ¬ ((256 : Nat) : Int) < 256 := by omega
      rw [lensL_all] at h
      have h2 := h.nilOwn 4 1
      clear h hi hlt
      go_wp2_with fail
      go_loopw [7, 8] (fun v7 v8 wr => ∃ (i : Nat) (v : Value), i ≤ s.size ∧ v7 = v ∧ v8 = .int .i64 i ∧ St noB w wr [blT v (bitsP L C (s.data.toList.take i)), ownT 34 1 (.slice A 256 cap) 256 (numsV (lensL L)), blkT cb (tabV .u64 C) 76, blkT lb (tabV .u8 L) 74]) (fun _ v8 _ => s.size - (intOf v8).toNat)
      case atStart => exact ⟨0, _, by omega, rfl, rfl, h2⟩
      case round =>
        clear h2
        obtain ⟨i, v, hi, rfl, rfl, h⟩ := hrel
        obtain ⟨B0, c0, rfl⟩ := h.own.form
        by_cases hlt : i < s.size
        · have hx8 := s[i].toNat_lt
          have ht : s.data.toList.take (i + 1) = s.data.toList.take i ++ [s[i]] := by
            rw [List.take_succ_eq_append_getElem (by simpa using hlt)]; rfl
          have hbl := bitsP_len (C := C) (fun i => Nat.le_trans (hL56 i) (by omega)) (s.data.toList.take i)
          rw [List.length_take] at hbl
          have HB1 := Lib.hid (bitsP_snoc L C (s.data.toList.take i) s[i])
          rw [← ht] at HB1
          have hd := h.ext ((Mut.refl noB wr).drew)
          generalize bitsP L C (s.data.toList.take i) = B1 at HB1 hd hbl
          have kc := cell_of_heap (hd.pull 2).blk s[i].toNat
          have kl := cell_of_heap (hd.pull 3).blk s[i].toNat
          rw [tabV_get _ _ _ (by omega)] at kc kl
          have hl56 := hL56 s[i].toNat
          have HB := Lib.hid (rbits_st hd (C s[i].toNat) (L s[i].toNat) (hC s[i].toNat) (by omega))
          have HK : Hid (∀ (w' : World) (T : Thing), St noB w w' [T, ownT 34 1 (.slice A 256 cap) 256 (numsV (lensL L)), blkT cb (tabV .u64 C) 76, blkT lb (tabV .u8 L) 74] → w'.cell? ⟨cb, s[i].toNat, none⟩ = some (.int .u64 (C s[i].toNat)) ∧ w'.cell? ⟨lb, s[i].toNat, none⟩ = some (.int .u8 (L s[i].toNat))) := Lib.hid (fun w' T g => by
            have a1 := cell_of_heap (g.pull 2).blk s[i].toNat
            have a2 := cell_of_heap (g.pull 3).blk s[i].toNat
            rw [tabV_get _ _ _ (by omega)] at a1 a2
            exact ⟨a1, a2⟩)
          clear ht h
          obtain ⟨x, hx⟩ : ∃ x, s[i].toNat = x := ⟨_, rfl⟩
          rw [hx] at kc kl HB hx8 hl56 HB1 HK
          generalize hcx : C x = cx at kc HB HB1 HK
          generalize hlx : L x = lx at kl HB hl56 HB1 HK
          clear hcx hlx
          have hlz : (i : Int) < (s.size : Int) := by omega
          have hx9 : (x : Int) < 256 := by omega
          have hw64 : IntKind.i64.wrap (lx : Int) = (lx : Int) := by rw [IntKind.wrap_i64]; omega
          go_wp2_with fail
          have hS : (fun w' : World => w'.cell? ⟨cb, x, none⟩ = some (.int .u64 (cx : Nat)) ∧ w'.cell? ⟨lb, x, none⟩ = some (.int .u8 (lx : Nat))) (World.drew _) := ⟨kc, kl⟩
          refine wp_region_held (S := fun w' : World => w'.cell? ⟨cb, x, none⟩ = some (.int .u64 (cx : Nat)) ∧ w'.cell? ⟨lb, x, none⟩ = some (.int .u8 (lx : Nat))) (by kernel_rfl) ?_
          change wpAnyH _ _ _ _ _ _ _ _ (World.drew _)
          refine wpAnyH_take (i := 0) (v := ?_) rfl (by kernel_rfl) (by kernel_rfl) (by kernel_rfl) (fun _ _ _ h => h) (Or.inl ⟨by rfl, ?_⟩) hS ?_
          rotate_left
          · (intro w' hS'; obtain ⟨j1, j2⟩ := hS'; go_simp; try with_reducible rfl)
          refine wpAnyH_take (i := 1) (v := ?_) rfl (by kernel_rfl) (by kernel_rfl) (by kernel_rfl) (fun _ _ _ h => h) (Or.inl ⟨by rfl, ?_⟩) hS ?_
          rotate_left
          · (intro w' hS'; obtain ⟨j1, j2⟩ := hS'; go_simp; try with_reducible rfl)
          refine wpAnyH_take (i := 2) (v := ?_) rfl (by kernel_rfl) (by kernel_rfl) (by kernel_rfl) (fun _ _ _ h => h) (Or.inl ⟨by rfl, ?_⟩) hS ?_
          rotate_left
          · (intro w' hS'; obtain ⟨j1, j2⟩ := hS'; go_simp; try with_reducible rfl)
          refine wpAnyH_take (i := 3) (v := ?_) rfl (by kernel_rfl) (by kernel_rfl) (by kernel_rfl) (fun _ _ _ h => h) (Or.inl ⟨by rfl, ?_⟩) hS ?_
          rotate_left
          · (intro w' hS'; obtain ⟨j1, j2⟩ := hS'; go_simp; try with_reducible rfl)
          refine wpAnyH_take (i := 4) (v := ?_) rfl (by kernel_rfl) (by kernel_rfl) (by kernel_rfl) (fun _ _ _ h => h) (Or.inl ⟨by rfl, ?_⟩) hS ?_
          rotate_left
          · (intro w' hS'; obtain ⟨j1, j2⟩ := hS'; go_simp; try with_reducible rfl)
          refine wpAnyH_take (i := 5) (v := ?_) rfl (by kernel_rfl) (by kernel_rfl) (by kernel_rfl) (fun _ _ _ h => h) (Or.inl ⟨by rfl, ?_⟩) hS ?_
          rotate_left
          · (intro w' hS'; obtain ⟨j1, j2⟩ := hS'; go_simp; try with_reducible rfl)
          refine wpAnyH_take (i := 6) (v := ?_) rfl (by kernel_rfl) (by kernel_rfl) (by kernel_rfl) (fun _ _ _ h => h) (Or.inl ⟨by rfl, ?_⟩) hS ?_
          rotate_left
          · (intro w' hS'; obtain ⟨j1, j2⟩ := hS'; go_simp; try with_reducible rfl)
          refine wpAnyH_take (i := 7) (v := ?_) rfl (by kernel_rfl) (by kernel_rfl) (by kernel_rfl) (fun _ _ _ h => h) (Or.inl ⟨by rfl, ?_⟩) hS ?_
          rotate_left
          · (intro w' hS'; obtain ⟨j1, j2⟩ := hS'; go_simp; try with_reducible rfl)
          refine wpAnyH_take (i := 8) (v := ?_) rfl (by kernel_rfl) (by kernel_rfl) (by kernel_rfl) (fun _ _ _ h => h) (Or.inl ⟨by rfl, ?_⟩) hS ?_
          rotate_left
          · (intro w' hS'; obtain ⟨j1, j2⟩ := hS'; go_simp; try with_reducible rfl)
          refine wpAnyH_take (i := 9) (v := ?_) rfl (by kernel_rfl) (by kernel_rfl) (by kernel_rfl) (fun _ _ _ h => h) (Or.inl ⟨by rfl, ?_⟩) hS ?_
          rotate_left
          · (intro w' hS'; obtain ⟨j1, j2⟩ := hS'; go_simp; try with_reducible rfl)
          refine wpAnyH_take (i := 10) (v := ?_) rfl (by kernel_rfl) (by kernel_rfl) (by kernel_rfl) (fun _ _ _ h => h) (Or.inl ⟨by rfl, ?_⟩) hS ?_
          rotate_left
          · (intro w' hS'; obtain ⟨j1, j2⟩ := hS'; go_simp; try with_reducible rfl)
          refine wpAnyH_take (i := 11) (v := ?_) rfl (by kernel_rfl) (by kernel_rfl) (by kernel_rfl) (fun _ _ _ h => h) (Or.inl ⟨by rfl, ?_⟩) hS ?_
          rotate_left
          · (intro w' hS'; obtain ⟨j1, j2⟩ := hS'; go_simp; try with_reducible rfl)
          refine wpAnyH_ready (rs := [12]) (by kernel_rfl) (by simp) ?_
          refine AllReadyH.cons rfl (fun K hK => ?_) AllReadyH.nil
          go_simp
          refine HB.out.mono ?_
          rintro _ w8 ⟨g8, rfl, h8⟩
          refine hK.out _ _ (HK.out _ _ h8.drop) (fun _ => ?_)
          clear hK K
          refine wpAnyH_ready (rs := [13]) (by kernel_rfl) (by simp) ?_
          refine AllReadyH.cons rfl (fun K hK => ?_) AllReadyH.nil
          refine step_pushAll rfl _ _ _ rfl 4 (.bool false) 1 1 Tryz.underlying88 bool_info rfl (by decide) h8.swap ⟨g8, 0, none⟩ lx lx (boolsV (bitsOf cx lx)) rfl rfl (by rw [boolsV_len, bitsOf_len, Nat.mul_one]) (World.ownsRow.cells h8.own (g := g8) rfl) (boolsV_one _) (by unfold maxLen; omega) (by omega) ?_
          intro A' c' w9 h9
          have h10 : St noB w w9 [blT (.slice A' (B1.length + lx) c') (bitsP L C (s.data.toList.take (i + 1))), ownT 34 1 (.slice A 256 cap) 256 (numsV (lensL L)), blkT cb (tabV .u64 C) 76, blkT lb (tabV .u8 L) 74] := by
            have := h9.swap.drop
            unfold blT
            rw [HB1.out, boolsV_append, List.length_append, bitsOf_len]; exact this
          have h11 : St noB w w9 [blT (.slice A' (B1.length + lx) c') (bitsP L C (s.data.toList.take (i + 1))), ownT 34 1 (.slice A 256 cap) 256 (numsV (lensL L)), blkT cb (tabV .u64 C) 76, blkT lb (tabV .u8 L) 74] := h10
          refine hK.out _ _ (HK.out _ _ h10) (fun _ => ?_)
          clear hK K
          refine wpAnyH_ready (rs := [14]) (by kernel_rfl) (by simp) ?_
          refine AllReadyH.cons rfl (fun K hK => ?_) AllReadyH.nil
          go_simp
          refine hK.out _ _ (HK.out _ _ h10) (fun _ => ?_)
          clear hK K
          refine wpAnyH_done (by kernel_rfl) ?_ _
          go_wp2_with fail
          exact ⟨⟨i + 1, _, by omega, rfl, by go_num, h11⟩, by simp only [intOf]; omega⟩
        · obtain rfl : i = s.size := by omega
          have eT : s.data.toList.take s.size = s.data.toList := List.take_of_length_le (by simp)
          rw [eT] at h ⊢
          clear eT
          have hlz : ¬ (s.size : Int) < (s.size : Int) := by omega
          have hwz : IntKind.u64.wrap (s.size : Int) = (s.size : Int) := by rw [IntKind.wrap_u64]; omega
          have HV := Lib.hid (rprint_any s.size (by omega) wr)
          have hnr := Own.nrow (h.pull 1).own (by simp [lensL])
          have hal := lensL_lt hL8
          have hbq := rbl_len (pk (lensL L)) (lensL L) rfl hal (by simp [lensL])
          have hbp := pack_len (bitsP L C s.data.toList)
          have hbl := bitsP_len (C := C) (fun i => Nat.le_trans (hL56 i) (by omega)) s.data.toList
          have hv10 := vb_len10 s.size (by omega)
          rw [hsz] at hbl
          have HRn := Lib.hid (fun w' (x : Ext wr w') => rrunprint_any A cap 256 (lensL L) w' (by simp [lensL]) (by omega) (hnr.ext x) hal)
          have HX := Lib.hid h.ends
          rw [hsz] at HP
          clear hsz
          generalize bitsP L C s.data.toList = B at h HP hbp hbl ⊢
          have hbr := Own.brow h.own
          have HST := Lib.hid (fun w' (x : Ext wr w') => rbytes_any (w := w') B0 c0 B (by omega) (hbr.ext x))
          clear hnr h hi hlt hbr
          generalize pk (lensL L) = q at HRn HP hbq
          generalize B.length = bn at *
          obtain ⟨s1, hs1⟩ : ∃ s1 : ByteArray, s1 = ⟨(vb s.size).toArray⟩ := ⟨_, rfl⟩
          obtain ⟨s2, hs2⟩ : ∃ s2 : ByteArray, s2 = ⟨(rbl q).toArray⟩ := ⟨_, rfl⟩
          obtain ⟨s3, hs3⟩ : ∃ s3 : ByteArray, s3 = ⟨(pack B).toArray⟩ := ⟨_, rfl⟩
          have z1 : s1.size = (vb s.size).length := by rw [hs1]; rfl
          have z2 : s2.size = (rbl q).length := by rw [hs2]; rfl
          have z3 : s3.size = (pack B).length := by rw [hs3]; rfl
          have z4 : (s1 ++ s2).size = s1.size + s2.size := ByteArray.size_append
          have HF : Hid ((s1 ++ s2) ++ s3 = ⟨R.toArray⟩) := Lib.hid (by rw [HP.out, hs1, hs2, hs3, bytes_append, bytes_append])
          rw [← hs1] at HV
          rw [← hs2] at HRn
          rw [← hs3] at HST
          rw [← z1] at hv10
          rw [← z2] at hbq
          rw [← z3] at hbp
          have z5 : s1.size + s2.size ≤ 9223372036854775807 := by omega
          have z6 : (s1 ++ s2).size + s3.size ≤ 9223372036854775807 := by omega
          clear hs1 hs2 hs3 z1 z2 z3 HP
          go_wp2_with fail
          refine HV.out.mono ?_
          rintro _ w8 ⟨rfl, x8⟩
          go_wp2_with fail
          refine (HRn.out w8 x8).mono ?_
          rintro _ w9 ⟨rfl, x9⟩
          go_wp2_with fail
          refine (HST.out w9 (x8.trans x9)).mono ?_
          rintro _ w10 ⟨rfl, x10⟩
          go_wp2_with fail
          rw [HF.out]
          go_ret
          exact ⟨rfl, ((HX.out.trans x8).trans x9).trans x10⟩
end Go.Proofs.YtjdglpngcdcneaaGreat
