/- Texts of this work, put together: HPack, HLens, HMapT, HBook, HOne, HCanon, HRead. -/
import Derived.Test.YtjdglpngcdcneaaGreatHf
import Derived.Test.YtjdglpngcdcneaaGreatHb
import Derived.Test.YtjdglpngcdcneaaGreatHd
import Derived.Test.YtjdglpngcdcneaaGreatHa
import Derived.Laws.StructEq
import Derived.MapKept
import Derived.TacticsInMore
import Derived.Deep.RegionHeld
/- Layer 7: huff.Pack. -/
namespace Go.Proofs.YtjdglpngcdcneaaGreat
open Go.RowKit
set_option linter.unusedVariables false
set_option linter.unusedSimpArgs false
set_option linter.unusedSectionVars false
theorem rounds_ok : ∀ (k : Nat) (s : HS), HOK s → HOK (roundsS k s)
  | 0, s, h => h
  | k + 1, s, h => by
    show HOK (if s.l.length ≤ 1 then s else roundsS k (roundS s))
    split
    · exact h
    · exact rounds_ok k _ (round_ok s h (by omega))
theorem lenS_lt (f : Nat → Nat) (hf : ∀ i, f i < 18446744073709551616) (n : Nat) (hn : n ≤ 256) : ∀ i, lenS (leafS f n) i < 256 := fun i => by
  unfold lenS
  split
  · unfold upd; split
    · omega
    · show 0 < 256; omega
  · exact (rounds_ok _ _ (start_ok f hf n hn)).tab i
theorem lenT_lt (f : Nat → Nat) (hf : ∀ i, f i < 18446744073709551616) : ∀ i, lenT f i < 256 := lenS_lt f hf 256 (Nat.le_refl _)
theorem tabV_sizes (k : IntKind) (t u : Nat → Nat) : (tabV k t).size = (tabV k u).size := by rw [tabV_size, tabV_size]
def SmallC (s : Nat × (Nat → Nat)) : Prop := s.1 < 18446744073709551616 ∧ ∀ i, s.2 i < 18446744073709551616
theorem cIn_small (t : Nat → Nat) (k : Nat) (s : Nat × (Nat → Nat)) (h : SmallC s) : ∀ i, SmallC (cIn t k i s)
  | 0 => h
  | i + 1 => by
    have ih := cIn_small t k s h i
    unfold cIn
    split
    · refine ⟨Nat.mod_lt _ (by omega), fun j => ?_⟩
      show upd (cIn t k i s).2 i (cIn t k i s).1 j < _
      unfold upd
      split
      · exact ih.1
      · exact ih.2 j
    · exact ih
theorem cOut_small (t : Nat → Nat) : ∀ k, SmallC (cOut t k)
  | 0 => ⟨(show (0 : Nat) < 18446744073709551616 by decide), fun i => (show (0 : Nat) < 18446744073709551616 by decide)⟩
  | k + 1 => by
    rw [cOut]
    generalize 256 = n
    exact cIn_small t k ((cOut t k).1 * 2 % 18446744073709551616, (cOut t k).2) ⟨Nat.mod_lt _ (by decide), (cOut_small t k).2⟩ n
theorem codT_lt (t : Nat → Nat) : ∀ i, codT t i < 18446744073709551616 := fun i => by
  unfold codT
  split
  · exact (cOut_small t 56).2 i
  · show 0 < 18446744073709551616; omega
/-- the lengths as a list -/
def lensL (t : Nat → Nat) : List Nat := (List.range 256).map t
def fillL (t : Nat → Nat) (i : Nat) : List Nat := (List.range i).map t ++ List.replicate (256 - i) 0
theorem fillL_len (t : Nat → Nat) (i : Nat) (h : i ≤ 256) : (fillL t i).length = 256 := by simp [fillL]; omega
theorem fillL_set (t : Nat → Nat) (i : Nat) (h : i < 256) : (fillL t i).set i (t i) = fillL t (i + 1) := by
  unfold fillL
  obtain ⟨k, hk⟩ : ∃ k, 256 - i = k + 1 := ⟨255 - i, by omega⟩
  rw [hk, show 256 - (i + 1) = k by omega, List.range_succ, List.map_append, List.replicate_succ, List.set_append_right _ _ (by simp)]
  simp
theorem fillL_all (t : Nat → Nat) : fillL t 256 = lensL t := by unfold fillL lensL; rw [Nat.sub_self]; simp
theorem fillL_zero (t : Nat → Nat) : fillL t 0 = List.replicate 256 0 := by unfold fillL; rw [Nat.sub_zero]; rfl
/-- the codes on end -/
def bitsP (L C : Nat → Nat) (l : List UInt8) : List Bool := l.flatMap fun x => bitsOf (C x.toNat) (L x.toNat)
theorem lensL_lt {t : Nat → Nat} (h : ∀ i, t i < 256) : AllLt (lensL t) := fun i hi => by
  have hm : (lensL t).getD i 0 ∈ lensL t := by rw [List.getD_eq_getElem?_getD, List.getElem?_eq_getElem hi]; exact List.getElem_mem _
  simp only [lensL, List.mem_map] at hm
  obtain ⟨j, _, e⟩ := hm
  show (lensL t).getD i 0 < _
  rw [show (lensL t).getD i 0 = t j from e.symm]
  have := h j; omega
theorem rbsH_len (p : List Rn) (ha : AllR p) : (rbs p).length ≤ 20 * p.length := by
  have : ∀ k, k ≤ p.length → (rbs (p.take k)).length ≤ 20 * k := by
    intro k
    induction k with
    | zero => intro _; simp [rbs]
    | succ k ih =>
      intro hk
      have h1 := ha k (by omega)
      have h2 := vb_len10 _ h1.1
      have h3 := vb_len10 ((p.getD k (0, 0)).2 - 1) (by omega)
      have := ih (by omega)
      rw [rbs_take p k (by omega), List.length_append, List.length_append]; omega
  have := this p.length (Nat.le_refl _)
  rwa [List.take_length] at this
theorem rbl_len (p : List Rn) (l : List Nat) (hp : pk l = p) (ha : AllLt l) (hl : l.length ≤ 1000000) : (rbl p).length ≤ 20000010 := by
  have h1 := len_le_expand (pk l) (ok_pk l)
  rw [expand_pk] at h1
  have h2 := rbsH_len (pk l) (allR_pk l ha hl)
  have h3 := vb_len10 (pk l).length (by omega)
  rw [← hp, rbl, List.length_append]; omega
theorem bitsP_len {L C : Nat → Nat} (h : ∀ i, L i ≤ 64) : ∀ l : List UInt8, (bitsP L C l).length ≤ 64 * l.length
  | [] => Nat.le_refl _
  | x :: l => by
    have := bitsP_len (C := C) h l
    have := h x.toNat
    unfold bitsP at *
    rw [List.flatMap_cons, List.length_append, bitsOf_len, List.length_cons]; omega
def packP (l : List UInt8) : List UInt8 := vb l.length ++ rbl (pk (lensL (lenT (cntF l)))) ++ pack (bitsP (lenT (cntF l)) (codT (lenT (cntF l))) l)
set_option maxRecDepth 20000 in
set_option maxHeartbeats 1000000 in
theorem pack_any (s : ByteArray) (hs : s.size ≤ 4200000) (hL64 : ∀ i, lenT (cntF s.data.toList) i ≤ 64) (w : World) :
    Calls Tryz.prog 22 #[.string s] w fun e w' => e = .returned (.string ⟨(packP s.data.toList).toArray⟩) ∧ Ext w w' := by
  have hf : ∀ i, cntF s.data.toList i < 18446744073709551616 := fun i => by
    have := cntF_le s.data.toList i
    have e : s.data.toList.length = s.size := by simp
    omega
  have HCt := Lib.hid (count_any s (by omega) w)
  have HLn := Lib.hid (fun w => lengths_any (cntF s.data.toList) hf w)
  have HP : Hid (packP s.data.toList = vb s.data.toList.length ++ rbl (pk (lensL (lenT (cntF s.data.toList)))) ++ pack (bitsP (lenT (cntF s.data.toList)) (codT (lenT (cntF s.data.toList))) s.data.toList)) := Lib.hid rfl
  have hL8 := lenT_lt _ hf
  generalize packP s.data.toList = R at HP ⊢
  generalize lenT (cntF s.data.toList) = L at HLn HP hL64 hL8
  generalize cntF s.data.toList = f at HCt HLn
  have HCo := Lib.hid (fun w => codes_any L (fun i _ => hL8 i) w)
  have hC := codT_lt L
  generalize codT L = C at HP HCo hC
  generalize codE L = E at HCo
  clear hf
  go_enter Tryz.func22, Tryz.ntmps22
  go_wp2_with fail
  refine HCt.out.mono ?_
  rintro _ w1 ⟨rfl, x1⟩
  go_wp2_with fail
  refine (HLn.out w1).mono ?_
  rintro _ w2 ⟨rfl, x2⟩
  clear HCt HLn
  have x3 := x1.trans x2
  have h1 := ((St.start noB w).ext x3).alloc (tabV .u8 (fun _ => 0)) 74
  have hz := zero8
  have hq := Lib.hid h1.blk
  have h2 := h1.row (tabV .u8 L)
  obtain ⟨w3, hw3, h3⟩ := name_world (P := fun x => St noB w x _) h2
  have HW3 := Lib.hid hw3
  clear h1 h2 hw3 x1 x2 x3
  have hq3 := Lib.hid h3.blk
  go_wp2_with (first
    | (with_reducible refine (show wpList _ _ _ _ _ (World.alloc _ _) from ?_); refine wpList_store_row rfl _ _ _ rfl w2.heap.size (tabV .u8 L) rfl rfl 74 (tabV .u8 (fun _ => 0)) hq.out (size8 _) (tabV_sizes _ _ _) (tabV_one _ _) ?_; rw [HW3.out])
    | (refine wpList_load_row rfl _ _ rfl w2.heap.size rfl 74 (tabV .u8 L) (0, 0) (.array 256 5) hq3.out Tryz.underlying74 rfl (size8 _) ?_))
  refine (HCo.out w3).mono ?_
  rintro _ w4 ⟨rfl, x4⟩
  generalize w2.heap.size = lb at h3 ⊢
  clear hq HW3 hq3 HCo hz
  have h1 := (h3.ext x4).alloc (tabV .u64 (fun _ => 0)) 76
  have hz := zero64
  have hq := Lib.hid h1.blk
  have h2 := h1.row (tabV .u64 C)
  obtain ⟨w5, hw5, h5⟩ := name_world (P := fun x => St noB w x _) h2
  have HW5 := Lib.hid hw5
  have hq3 := Lib.hid (fun o => (((St.ext h5 ((Mut.refl noB w5).alloc o))).pull 1).blk)
  clear h1 h2 hw5 x4 h3
  obtain ⟨i0, hi0, hz0, hz1, hz2⟩ := info_parts u64_info
  obtain ⟨Z, hZ⟩ : ∃ Z, (numsV (fillL L 0)).toArray = Z := ⟨_, rfl⟩
  have hmk : ∀ w : World, (Instr.makeSlice 46 (.int .i64 256) (.int .i64 256)).run Tryz.prog w = .ok (.slice (some ⟨w.heap.size, 0, none⟩) 256 256) (w.alloc (.cells Z 34)) := by
    intro w
    rw [run_make w 46 34 i0 _ Tryz.underlying46 hi0 hz0 .i64 .i64 256 256 (by omega) (by omega) (by rw [hz2]; omega) (by omega), hz1, ← hZ, fillL_zero, ← zeros]
    rfl
  have HZ := Lib.hid hZ
  clear hZ hz0 hz1 hz2 hi0
  go_wp2_with (first
    | (with_reducible refine (show wpList _ _ _ _ _ (World.alloc _ _) from ?_); refine wpList_store_row rfl _ _ _ rfl w4.heap.size (tabV .u64 C) rfl rfl 76 (tabV .u64 (fun _ => 0)) hq.out (size64 _) (tabV_sizes _ _ _) (tabV_one _ _) ?_; rw [HW5.out])
    | (with_reducible refine (show wpList _ _ _ _ _ (World.alloc _ _) from ?_); refine wpList_load_row rfl _ _ rfl lb rfl 74 (tabV .u8 L) (0, 0) (.array 256 5) (hq3.out _) Tryz.underlying74 rfl (size8 _) ?_))
  have hZ := HZ.out
  have h6 := h5.made 34 1 256 256 Z (by omega) (by unfold maxLen; omega) (by rw [← hZ, List.size_toArray, numsV_len, fillL_len _ _ (by omega)])
  have e6 : Z.toList.take (256 * 1) = numsV (fillL L 0) := by
    rw [← hZ]
    exact List.take_of_length_le (by rw [numsV_len, fillL_len _ _ (by omega)]; omega)
  rw [e6] at h6
  generalize w5.alloc (.cells Z 34) = w6 at h6 ⊢
  generalize w5.heap.size = nb at h6 ⊢
  generalize w4.heap.size = cb at h6 ⊢
  obtain ⟨T8, hT8⟩ : ∃ T8, T8 = tabV .u8 L := ⟨_, rfl⟩
  have hT0 : ∀ i, i < 256 → T8[i]? = some (.int .u8 (L i)) := fun i hi => by rw [hT8]; exact tabV_get _ _ i hi
  rw [← hT8]
  clear hmk hT8 hZ e6 h5 HW5 hq hq3 hz HZ
  go_loopw [21] (fun v21 wr => ∃ i : Nat, v21 = .int .i64 i ∧ i ≤ 256 ∧ St noB w wr [ownT 34 1 (.slice (some ⟨nb, 0, none⟩) 256 256) 256 (numsV (fillL L i)), blkT cb (tabV .u64 C) 76, blkT lb (tabV .u8 L) 74]) (fun v21 _ => 256 - (intOf v21).toNat)
  case atStart => exact ⟨0, rfl, by omega, h6⟩
  case round =>
    clear h6
    obtain ⟨i, rfl, hi, h⟩ := hrel
    by_cases hlt : i < 256
    · have hl1 : (i : Int) < 256 := by omega
      have hT1 := fun w => index8 T8 i _ hlt (hT0 i hlt) w
      have hLi := hL8 i
      have c0 := Own.cell h.own i (by omega)
      have f0 := Own.free h.own i
      rw [numsV_get _ _ (by rw [fillL_len _ _ (by omega)]; exact hlt)] at c0
      have h7 := h.stored i (.int .u64 (L i : Nat))
      rw [numsV_set, fillL_set L i hlt] at h7
      have H7 := Lib.hid h7
      clear h h7
      generalize L i = x at *
      generalize (fillL L i).getD i 0 = y at *
      go_wp2_with fail
      exact ⟨⟨i + 1, by go_num, by omega, H7.out⟩, by simp only [intOf]; omega⟩
    · obtain rfl : i = 256 := by omega
      have hl1 : ¬ ((256 : Nat) : Int) < 256 := by omega
      rw [fillL_all] at h
      have h2 := h.newBw
      clear h hT0 hi hlt
      go_wp2_with fail
      generalize wr.alloc (.cells #[.slice none 0 0, .int .i64 0] 81) = w7 at h2 ⊢
      generalize wr.heap.size = bb at h2 ⊢
      go_loopw [33] (fun v33 wr => ∃ i : Nat, v33 = .int .i64 i ∧ i ≤ s.size ∧ St noB w wr (bwT bb (bitsP L C (s.data.toList.take i)) :: [ownT 34 1 (.slice (some ⟨nb, 0, none⟩) 256 256) 256 (numsV (lensL L)), blkT cb (tabV .u64 C) 76, blkT lb (tabV .u8 L) 74])) (fun v33 _ => s.size - (intOf v33).toNat)
      case atStart => exact ⟨0, rfl, by omega, h2⟩
      case round =>
        clear h2
        obtain ⟨i, rfl, hi, h⟩ := hrel
        by_cases hlt : i < s.size
        · have hx8 := s[i].toNat_lt
          have ht : s.data.toList.take (i + 1) = s.data.toList.take i ++ [s[i]] := by
            rw [List.take_succ_eq_append_getElem (by simpa using hlt)]; rfl
          have hb1 : bitsP L C (s.data.toList.take (i + 1)) = bitsP L C (s.data.toList.take i) ++ bitsOf (C s[i].toNat) (L s[i].toNat) := by
            rw [ht]; unfold bitsP; rw [List.flatMap_append, List.flatMap_singleton]
          have hbl := bitsP_len (C := C) hL64 (s.data.toList.take i)
          rw [List.length_take] at hbl
          have hd := h.ext ((Mut.refl noB wr).drew)
          have kc := cell_of_heap (hd.pull 2).blk s[i].toNat
          have kl := cell_of_heap (hd.pull 3).blk s[i].toNat
          rw [tabV_get _ _ _ (by omega)] at kc kl
          have hl64 := hL64 s[i].toNat
          have HB := Lib.hid (bput_st hd (C s[i].toNat) (L s[i].toNat) (hC s[i].toNat) hl64 (by omega))
          rw [← hb1] at HB
          clear ht hb1 hbl h hd
          obtain ⟨x, hx⟩ : ∃ x, s[i].toNat = x := ⟨_, rfl⟩
          rw [hx] at kc kl HB hx8 hl64
          generalize hcx : C x = cx at kc HB
          generalize hlx : L x = lx at kl HB hl64
          clear hcx hlx
          have hlz : (i : Int) < (s.size : Int) := by omega
          have hx9 : (x : Int) < 256 := by omega
          have hw64 : IntKind.i64.wrap (lx : Int) = (lx : Int) := by rw [IntKind.wrap_i64]; omega
          go_wp2_with fail
          refine wp_region_any (by kernel_rfl) ?_
          change wpAny _ _ _ _ _ _ _ (World.drew _)
          refine wpAny_take (i := 0) (v := ?_) rfl (by kernel_rfl) (by kernel_rfl) (by kernel_rfl) (fun _ _ _ h => h) (Or.inl ⟨by rfl, ?_⟩) ?_
          rotate_left
          · (intro w; go_simp; try with_reducible rfl)
          refine wpAny_take (i := 1) (v := ?_) rfl (by kernel_rfl) (by kernel_rfl) (by kernel_rfl) (fun _ _ _ h => h) (Or.inl ⟨by rfl, ?_⟩) ?_
          rotate_left
          · (intro w; go_simp; try with_reducible rfl)
          refine wpAny_take (i := 2) (v := ?_) rfl (by kernel_rfl) (by kernel_rfl) (by kernel_rfl) (fun _ _ _ h => h) (Or.inl ⟨by rfl, ?_⟩) ?_
          rotate_left
          · (intro w; go_simp; try with_reducible rfl)
          refine wpAny_take (i := 3) (v := ?_) rfl (by kernel_rfl) (by kernel_rfl) (by kernel_rfl) (fun _ _ _ h => h) (Or.inl ⟨by rfl, ?_⟩) ?_
          rotate_left
          · (intro w; go_simp; try with_reducible rfl)
          refine wpAny_take (i := 5) (v := ?_) rfl (by kernel_rfl) (by kernel_rfl) (by kernel_rfl) (fun _ _ _ h => h) (Or.inl ⟨by rfl, ?_⟩) ?_
          rotate_left
          · (intro w; go_simp; try with_reducible rfl)
          refine wpAny_take (i := 6) (v := ?_) rfl (by kernel_rfl) (by kernel_rfl) (by kernel_rfl) (fun _ _ _ h => h) (Or.inl ⟨by rfl, ?_⟩) ?_
          rotate_left
          · (intro w; go_simp; try with_reducible rfl)
          refine wpAny_take (i := 7) (v := ?_) rfl (by kernel_rfl) (by kernel_rfl) (by kernel_rfl) (fun _ _ _ h => h) (Or.inl ⟨by rfl, ?_⟩) ?_
          rotate_left
          · (intro w; go_simp; try with_reducible rfl)
          refine wpAny_take (i := 8) (v := ?_) rfl (by kernel_rfl) (by kernel_rfl) (by kernel_rfl) (fun _ _ _ h => h) (Or.inl ⟨by rfl, ?_⟩) ?_
          rotate_left
          · (intro w; go_simp; try with_reducible rfl)
          refine wpAny_ready (rs := [4, 9]) (by kernel_rfl) (by simp) ?_
          refine AllReady.cons rfl (fun K hK => ?_) ?_
          · go_simp
            refine hK _ _ ?_
            clear hK K
            refine wpAny_ready (rs := [9]) (by kernel_rfl) (by simp) ?_
            refine AllReady.cons rfl (fun K hK => ?_) AllReady.nil
            go_simp
            refine hK _ _ ?_
            clear hK K
            refine wpAny_take (i := 10) (v := ?_) rfl (by kernel_rfl) (by kernel_rfl) (by kernel_rfl) (fun _ _ _ h => h) (Or.inl ⟨by rfl, ?_⟩) ?_
            rotate_left
            · (intro w; go_simp; try with_reducible rfl)
            refine wpAny_ready (rs := [11]) (by kernel_rfl) (by simp) ?_
            refine AllReady.cons rfl (fun K hK => ?_) AllReady.nil
            go_simp
            refine HB.out.mono ?_
            rintro _ w8 ⟨rfl, h8⟩
            refine hK _ _ ?_
            clear hK K
            refine wpAny_done (by kernel_rfl) ?_ _
            go_wp2_with fail
            exact ⟨⟨i + 1, by go_num, by omega, h8⟩, by simp only [intOf]; omega⟩
          · refine AllReady.cons rfl (fun K hK => ?_) AllReady.nil
            go_simp
            refine hK _ _ ?_
            clear hK K
            refine wpAny_take (i := 10) (v := ?_) rfl (by kernel_rfl) (by kernel_rfl) (by kernel_rfl) (fun _ _ _ h => h) (Or.inl ⟨by rfl, ?_⟩) ?_
            rotate_left
            · (intro w; go_simp; try with_reducible rfl)
            refine wpAny_ready (rs := [4]) (by kernel_rfl) (by simp) ?_
            refine AllReady.cons rfl (fun K hK => ?_) AllReady.nil
            go_simp
            refine hK _ _ ?_
            clear hK K
            refine wpAny_ready (rs := [11]) (by kernel_rfl) (by simp) ?_
            refine AllReady.cons rfl (fun K hK => ?_) AllReady.nil
            go_simp
            refine HB.out.mono ?_
            rintro _ w8 ⟨rfl, h8⟩
            refine hK _ _ ?_
            clear hK K
            refine wpAny_done (by kernel_rfl) ?_ _
            go_wp2_with fail
            exact ⟨⟨i + 1, by go_num, by omega, h8⟩, by simp only [intOf]; omega⟩
        · obtain rfl : i = s.size := by omega
          rw [List.take_of_length_le (by simp)] at h
          have hlz : ¬ (s.size : Int) < (s.size : Int) := by omega
          have hwz : IntKind.u64.wrap (s.size : Int) = (s.size : Int) := by rw [IntKind.wrap_u64]; omega
          have HV := Lib.hid (vprint_any s.size (by omega) wr)
          have hnr := Own.nrow (h.pull 1).own (by simp [lensL])
          have hal := lensL_lt hL8
          have hbq := rbl_len (pk (lensL L)) (lensL L) rfl hal (by simp [lensL])
          have hbp := pack_len (bitsP L C s.data.toList)
          have hbl := bitsP_len (C := C) hL64 s.data.toList
          have hv10 := vb_len10 s.size (by omega)
          have esz : s.data.toList.length = s.size := by simp
          rw [esz] at hbl
          have HRn := Lib.hid (fun w' (x : Ext wr w') => runprint_any (some ⟨nb, 0, none⟩) 256 256 (lensL L) w' (by simp [lensL]) (by omega) (hnr.ext x) hal)
          have HST := Lib.hid (fun w' (x : Ext wr w') => bstr_st (h.ext x))
          have HX := Lib.hid h.ends
          clear hnr h hi hlt
          rw [esz] at HP
          clear esz
          generalize bitsP L C s.data.toList = B at HST HP hbp hbl
          generalize pk (lensL L) = q at HRn HP hbq
          rw [show rbl q = rbl q from rfl] at HRn
          obtain ⟨s1, hs1⟩ : ∃ s1 : ByteArray, s1 = ⟨(vb s.size).toArray⟩ := ⟨_, rfl⟩
          obtain ⟨s2, hs2⟩ : ∃ s2 : ByteArray, s2 = ⟨(rbl q).toArray⟩ := ⟨_, rfl⟩
          obtain ⟨s3, hs3⟩ : ∃ s3 : ByteArray, s3 = ⟨(pack B).toArray⟩ := ⟨_, rfl⟩
          have z1 : s1.size = (vb s.size).length := by rw [hs1]; rfl
          have z2 : s2.size = (rbl q).length := by rw [hs2]; rfl
          have z3 : s3.size = (pack B).length := by rw [hs3]; rfl
          have z4 : (s1 ++ s2).size = s1.size + s2.size := ByteArray.size_append
          have HF : Hid ((s1 ++ s2) ++ s3 = ⟨R.toArray⟩) := Lib.hid (by rw [HP.out, hs1, hs2, hs3, bytes_append, bytes_append])
          rw [← hs1] at HV
          rw [← hs2] at HRn
          rw [← hs3] at HST
          rw [← z1] at hv10
          rw [← z2] at hbq
          rw [← z3] at hbp
          have z5 : s1.size + s2.size ≤ 9223372036854775807 := by omega
          have z6 : (s1 ++ s2).size + s3.size ≤ 9223372036854775807 := by omega
          clear hs1 hs2 hs3 z1 z2 z3 HP
          go_wp2_with fail
          refine HV.out.mono ?_
          rintro _ w8 ⟨rfl, x8⟩
          go_wp2_with fail
          refine (HRn.out w8 x8).mono ?_
          rintro _ w9 ⟨rfl, x9⟩
          go_wp2_with fail
          refine (HST.out w9 (x8.trans x9)).mono ?_
          rintro _ _ ⟨rfl, rfl⟩
          go_wp2_with fail
          rw [HF.out]
          go_ret
          exact ⟨rfl, (HX.out.trans x8).trans x9⟩
end Go.Proofs.YtjdglpngcdcneaaGreat

/- Layer 7: the lengths that come next. -/
namespace Go.Proofs.YtjdglpngcdcneaaGreat
open Go.RowKit
set_option linter.unusedVariables false
set_option linter.unusedSimpArgs false
set_option linter.unusedSectionVars false
section
variable {S : Nat → Prop} {W w w' : World}
theorem Things.frame {fp rest : Nat → Prop} {M : List Thing} (hM : Things S W w' M rest) (hd : ∀ k, fp k ∨ w.heap.size ≤ k → ¬ rest k) (hs : ∀ k, fp k ∨ w.heap.size ≤ k → S k ∨ W.heap.size ≤ k) :
    ∀ {L : List Thing} {all : Nat → Prop}, Things fp w w' L all → ∃ all', Things S W w' (L ++ M) all' ∧ ∀ k, all' k ↔ all k ∨ rest k
  | [], all, h => ⟨rest, hM, fun k => ⟨.inr, fun e => e.resolve_left (h k)⟩⟩
  | t :: L, all, ⟨f1, r1, h1, h2, h3, h4, h5⟩ => by
    obtain ⟨a2, g1, g2⟩ := Things.frame hM hd hs h2
    refine ⟨fun k => f1 k ∨ a2 k, ⟨f1, a2, h1, g1, fun k hk ha => ?_, fun k => Iff.rfl, fun k hk => hs k (h5 k hk)⟩, fun k => ?_⟩
    · rcases (g2 k).1 ha with h | h
      · exact h3 k hk h
      · exact hd k (h5 k hk) h
    · show f1 k ∨ a2 k ↔ _
      rw [g2, h4, or_assoc]
/-- what a call does to one thing, beside others -/
theorem St.frame {t : Thing} {L M : List Thing} (h : St S W w (t :: M)) (h2 : ∀ fp, t.holds w fp → St fp w w' L) : St S W w' (L ++ M) := by
  obtain ⟨hm, all, fp, rest, h1, hM, h3, h4, h5⟩ := h
  obtain ⟨g1, a2, g2⟩ := h2 fp h1
  have hsz := hm.size
  have hlt := hM.lt
  have hM2 : Things S W w' M rest := hM.keep g1 (fun k hk hf => h3 k hf hk)
  obtain ⟨a3, g3, _⟩ := Things.frame (w := w) (fp := fp) hM2 (fun k hk hr => by
    rcases hk with h | h
    · exact h3 k h hr
    · have := hlt k hr; omega) (fun k hk => by
    rcases hk with h | h
    · exact h5 k h
    · right; omega) g2
  exact ⟨hm.trans' g1 (fun i hi hf => (h5 i hf).resolve_right (by omega)), a3, g3⟩
end
/-- are these lengths right? -/
def lensOK (er : Nat) (l : List Nat) : Bool := decide (er = 0) && decide (l.length = 256) && l.all fun n => decide (n ≤ 56)
def tabL (l : List Nat) (k : Nat) : Nat → Nat := fun i => if i < k then l.getD i 0 % 256 else 0
theorem tabL_succ (l : List Nat) (k : Nat) : tabL l (k + 1) = upd (tabL l k) k (l.getD k 0 % 256) := by
  funext i
  unfold upd tabL
  by_cases e : i = k
  · subst e; simp
  · rw [if_neg e]
    by_cases h : i < k
    · rw [if_pos h, if_pos (by omega)]
    · rw [if_neg h, if_neg (by omega)]
theorem tabL_lt (l : List Nat) (k : Nat) : ∀ i, tabL l k i < 256 := fun i => by
  unfold tabL
  split
  · exact Nat.mod_lt _ (by omega)
  · omega
set_option maxRecDepth 20000 in
set_option maxHeartbeats 2000000 in
theorem lengths_st {S : Nat → Prop} {W w : World} {b a : Nat} {s : ByteArray} (h : St S W w [rdT b s a]) (hs : s.size ≤ 1000000) (ha : a ≤ s.size) (L : List Nat) (er a2 : Nat) (hR : rrl s.data.toList a 256 = (L, er, a2)) :
    Calls Tryz.prog 80 #[.pointer (some ⟨b, 0, none⟩)] w fun e w' => ∃ t : Nat → Nat, (∀ i, t i < 256) ∧ e = .returned (.tuple #[.agg (tabV .u8 t), .bool (lensOK er L)]) ∧ (lensOK er L = true → t = tabL L 256) ∧ St S W w' [rdT b s a2] := by
  have h1 := (h.alloc (tabV .u8 (fun _ => 0)) 74).swap
  have hrd : (rdT b s a).holds (w.alloc (.cells (tabV .u8 (fun _ => 0)) 74)) (fun k => k = b) := ⟨h1.rd, rfl⟩
  have HRR := Lib.hid (runread_st (St.one hrd) (by omega) ha 256 (by omega))
  rw [hR] at HRR
  have hz := zero8
  clear hrd hR
  go_enter Tryz.func80, Tryz.ntmps80
  go_wp2_with fail
  refine HRR.out.mono ?_
  rintro _ w2 ⟨v, rfl, h2⟩
  have h3 := St.frame h1 (L := [nlT v L, rdT b s a2]) (fun fp hfp => by rw [hfp.2]; exact h2)
  change St S W w2 [nlT v L, rdT b s a2, blkT w.heap.size (tabV .u8 (fun _ => 0)) 74] at h3
  generalize w.heap.size = tb at h3 ⊢
  obtain ⟨A, c, rfl⟩ := h3.own.form
  clear h1 h2 h HRR hz
  change St S W w2 [ownT 34 1 (.slice A L.length c) L.length (numsV L), rdT b s a2, blkT tb (tabV .u8 (fun _ => 0)) 74] at h3
  obtain ⟨m, hm⟩ : ∃ m, L.length = m := ⟨_, rfl⟩
  rw [hm] at h3 ⊢
  obtain ⟨zt, hzt⟩ : ∃ zt : Nat → Nat, zt = fun _ => 0 := ⟨_, rfl⟩
  rw [← hzt] at h3
  have HZ := Lib.hid hzt
  clear hzt
  by_cases he : er = 0
  · subst he
    by_cases hl : m = 256
    · subst hl
      go_wp2_with fail
      have HG0 : Hid (∀ j, j < 0 → L.getD j 0 ≤ 56) := Lib.hid (fun j hj => by omega)
      have h4 : St S W w2 [ownT 34 1 (.slice A 256 c) 256 (numsV L), rdT b s a2, blkT tb (tabV .u8 (tabL L 0)) 74] := by
        have e : tabL L 0 = zt := by rw [HZ.out]; funext i; unfold tabL; rw [if_neg (by omega)]
        rw [e]; exact h3
      have HLn := Lib.hid hm
      clear hm h3
      go_loopw [23] (fun v23 wr => ∃ k : Nat, v23 = .int .i64 k ∧ k ≤ 256 ∧ Hid (∀ j, j < k → L.getD j 0 ≤ 56) ∧ St S W wr [ownT 34 1 (.slice A 256 c) 256 (numsV L), rdT b s a2, blkT tb (tabV .u8 (tabL L k)) 74]) (fun v23 _ => 256 - (intOf v23).toNat)
      case atStart => exact ⟨0, rfl, by omega, HG0, h4⟩
      case round =>
        clear h4 HG0
        obtain ⟨k, rfl, hk, HG, h⟩ := hrel
        by_cases hlt : k < 256
        · have hl1 : (k : Int) < 256 := by omega
          obtain ⟨g, rfl, c0⟩ := Own.numAt h.own HLn.out k hlt
          by_cases hg : 56 < L.getD k 0
          · have hg2 : (56 : Int) < (L.getD k 0 : Int) := by omega
            have HOK : Hid (lensOK 0 L = false) := Lib.hid (by
              unfold lensOK
              rw [Bool.and_eq_false_iff]
              right
              rw [List.all_eq_false]
              refine ⟨L.getD k 0, ?_, by simpa using hg⟩
              rw [List.getD_eq_getElem?_getD, List.getElem?_eq_getElem (by rw [HLn.out]; exact hlt)]; exact List.getElem_mem _)
            have hlt8 := tabL_lt L k
            generalize tabL L k = ct at h hlt8
            have hb := Lib.hid (h.pull 2).blk
            clear HG hg
            generalize L.getD k 0 = x at *
            go_wp2_with (first
              | (refine wpList_load_row rfl _ _ rfl tb rfl 74 (tabV .u8 ct) (0, 0) (.array 256 5) hb.out Tryz.underlying74 rfl (size8 _) ?_)
              | (refine wpList_store_row rfl _ _ _ rfl tb (tabV .u8 ct) rfl rfl 74 (tabV .u8 ct) hb.out (size8 _) rfl (tabV_one _ _) ?_; rw [setRow_self _ _ _ _ _ hb.out]))
            refine bodyPost_ret_by (results_pairH rfl _ _ tb 74 _ (0, 0) (.array 256 5) rfl hb.out Tryz.underlying74 rfl (size8 _)) rfl ?_
            rw [HOK.out]
            exact ⟨ct, hlt8, rfl, (fun e => by cases e), h.drop.swap.drop⟩
          · have hg2 : ¬ (56 : Int) < (L.getD k 0 : Int) := by omega
            have HG2 : Hid (∀ j, j < k + 1 → L.getD j 0 ≤ 56) := Lib.hid (fun j hj => by
              by_cases e : j = k
              · subst e; omega
              · exact HG.out j (by omega))
            have hk2 := (h.pull 2).set k (.int .u8 ((L.getD k 0 % 256 : Nat) : Int))
            rw [tabV_set _ _ _ _ hlt, ← tabL_succ] at hk2
            have ck := cell_of_heap (h.pull 2).blk k
            rw [tabV_get _ _ _ hlt] at ck
            have fk := free_of_heap (h.pull 2).blk k
            have H5 : Hid (St S W _ [ownT 34 1 (.slice (some ⟨g, 0, none⟩) 256 c) 256 (numsV L), rdT b s a2, blkT tb (tabV .u8 (tabL L (k + 1))) 74]) := Lib.hid ((hk2.pull 2).pull 2)
            have hmod : L.getD k 0 % 256 = L.getD k 0 := Nat.mod_eq_of_lt (by omega)
            rw [hmod] at H5
            clear h hk2 HG hmod
            generalize tabL L k k = y at ck
            generalize L.getD k 0 = x at *
            have hw8 : IntKind.u8.wrap (x : Int) = (x : Int) := by rw [IntKind.wrap_u8]; omega
            go_wp2_with fail
            exact ⟨⟨k + 1, by go_num, by omega, HG2, H5.out⟩, by simp only [intOf]; omega⟩
        · obtain rfl : k = 256 := by omega
          have hl1 : ¬ ((256 : Nat) : Int) < 256 := by omega
          have HOK : Hid (lensOK 0 L = true) := Lib.hid (by
            unfold lensOK
            rw [HLn.out, Bool.and_eq_true, Bool.and_eq_true]
            refine ⟨⟨rfl, rfl⟩, List.all_eq_true.2 fun x hx => ?_⟩
            obtain ⟨j, hj, rfl⟩ := List.mem_iff_getElem.1 hx
            have := HG.out j (by rw [← HLn.out]; exact hj)
            rw [List.getD_eq_getElem?_getD, List.getElem?_eq_getElem hj] at this
            exact decide_eq_true this)
          obtain ⟨ct, hct⟩ : ∃ ct, ct = tabL L 256 := ⟨_, rfl⟩
          have hlt8 := tabL_lt L 256
          rw [← hct] at h hlt8
          have HCT := Lib.hid hct
          have hb := Lib.hid (h.pull 2).blk
          clear HG hct
          go_wp2_with (first
            | (refine wpList_load_row rfl _ _ rfl tb rfl 74 (tabV .u8 ct) (0, 0) (.array 256 5) hb.out Tryz.underlying74 rfl (size8 _) ?_)
            | (refine wpList_store_row rfl _ _ _ rfl tb (tabV .u8 ct) rfl rfl 74 (tabV .u8 ct) hb.out (size8 _) rfl (tabV_one _ _) ?_; rw [setRow_self _ _ _ _ _ hb.out]))
          refine bodyPost_ret_by (results_pairH rfl _ _ tb 74 _ (0, 0) (.array 256 5) rfl hb.out Tryz.underlying74 rfl (size8 _)) rfl ?_
          rw [HOK.out]
          exact ⟨ct, hlt8, rfl, fun _ => HCT.out, h.drop.swap.drop⟩
    · have hl2 : ¬ (m : Int) = 256 := by omega
      have HOK : Hid (lensOK 0 L = false) := Lib.hid (by unfold lensOK; rw [hm, decide_eq_false hl]; rfl)
      have hb := Lib.hid (h3.pull 2).blk
      clear hm
      go_wp2_with (first
        | (refine wpList_load_row rfl _ _ rfl tb rfl 74 (tabV .u8 zt) (0, 0) (.array 256 5) hb.out Tryz.underlying74 rfl (size8 _) ?_)
        | (refine wpList_store_row rfl _ _ _ rfl tb (tabV .u8 zt) rfl rfl 74 (tabV .u8 zt) hb.out (size8 _) rfl (tabV_one _ _) ?_; rw [setRow_self _ _ _ _ _ hb.out]))
      refine bodyPost_ret_by (results_pairH rfl _ _ tb 74 _ (0, 0) (.array 256 5) rfl hb.out Tryz.underlying74 rfl (size8 _)) rfl ?_
      rw [HOK.out]
      exact ⟨zt, fun i => by rw [HZ.out]; show 0 < 256; omega, rfl, (fun e => by cases e), h3.drop.swap.drop⟩
  · have he2 : ¬ (er : Int) = 0 := by omega
    have HOK : Hid (lensOK er L = false) := Lib.hid (by unfold lensOK; rw [decide_eq_false he]; rfl)
    have hb := Lib.hid (h3.pull 2).blk
    clear hm
    go_wp2_with (first
      | (refine wpList_load_row rfl _ _ rfl tb rfl 74 (tabV .u8 zt) (0, 0) (.array 256 5) hb.out Tryz.underlying74 rfl (size8 _) ?_)
      | (refine wpList_store_row rfl _ _ _ rfl tb (tabV .u8 zt) rfl rfl 74 (tabV .u8 zt) hb.out (size8 _) rfl (tabV_one _ _) ?_; rw [setRow_self _ _ _ _ _ hb.out]))
    refine bodyPost_ret_by (results_pairH rfl _ _ tb 74 _ (0, 0) (.array 256 5) rfl hb.out Tryz.underlying74 rfl (size8 _)) rfl ?_
    rw [HOK.out]
    exact ⟨zt, fun i => by rw [HZ.out]; show 0 < 256; omega, rfl, (fun e => by cases e), h3.drop.swap.drop⟩
end Go.Proofs.YtjdglpngcdcneaaGreat

/- Layer 7: maps by a length and a code. -/
namespace Go.Proofs.YtjdglpngcdcneaaGreat
open Go.RowKit
set_option linter.unusedVariables false
set_option linter.unusedSimpArgs false
set_option linter.unusedSectionVars false
/-- a key: a length and a code -/
def keyV (a b : Nat) : Value := .agg #[.int .u8 a, .int .u64 b]
theorem fields_entry : Tryz.prog.underlying 151 = some (.struct (Tryz.prog.fieldsOf 151)) := by kernel_rfl
theorem fields_list : ((Tryz.prog.fieldsOf 151).toList.map fun f => (f.name == "_", f.type, f.offset)) = [(false, 5, 0), (false, 34, 1)] := by kernel_rfl
theorem stood_entry : Tryz.prog.stoodInHeld 151 = false := by kernel_rfl
theorem size_u8 : (Tryz.prog.info? 5).map (·.size) = some 1 := by kernel_rfl
theorem size_u64 : (Tryz.prog.info? 34).map (·.size) = some 1 := by kernel_rfl
theorem two_of_len {α : Type} {l : List α} (h : l.length = 2) : ∃ a b, l = [a, b] := by
  match l, h with
  | [a, b], _ => exact ⟨a, b, rfl⟩
theorem beq_nat (a b : Nat) : ((a : Int) == (b : Int)) = decide (a = b) := by
  rw [Bool.eq_iff_iff]; simp; omega
theorem fields_two : (Tryz.prog.fieldsOf 151).toList.length = 2 := by kernel_rfl
theorem equalIn_u8 (d : Nat) (a b : Nat) (w : World) : (Op.equalIn (d + 1) 5 (.int .u8 a) (.int .u8 b)).run Tryz.prog w = .ok (decide (a = b)) w := by
  simp [Op.equalIn, run_underlying Tryz.underlying5, Result.andThen]
  exact beq_nat a b
theorem equalIn_u64 (d : Nat) (a b : Nat) (w : World) : (Op.equalIn (d + 1) 34 (.int .u64 a) (.int .u64 b)).run Tryz.prog w = .ok (decide (a = b)) w := by
  simp [Op.equalIn, run_underlying Tryz.underlying34, Result.andThen]
  exact beq_nat a b
theorem equal_entry (n a b c d : Nat) (w : World) : (Op.equalIn (n + 2) 151 (keyV a b) (keyV c d)).run Tryz.prog w = .ok (decide (a = c ∧ b = d)) w := by
  unfold keyV
  rw [run_equalIn_struct _ _ _ _ _ fields_entry stood_entry]
  obtain ⟨f, g, e⟩ := two_of_len fields_two
  have e2 := fields_list
  rw [e] at e2
  simp at e2
  obtain ⟨⟨n1, t1, o1⟩, n2, t2, o2⟩ := e2
  rw [e]
  obtain ⟨i8, h8, z8⟩ := Option.map_eq_some_iff.1 size_u8
  obtain ⟨i64, h64, z64⟩ := Option.map_eq_some_iff.1 size_u64
  simp [Op.eqFields, n1, n2, t1, t2, o1, o2, part, isAgg, sizeOf, typeInfo, h8, h64, z8, z64, run_underlying Tryz.underlying5, run_underlying Tryz.underlying34, equalIn_u8, equalIn_u64, Result.andThen]
  by_cases h1 : a = c <;> by_cases h2 : b = d <;> simp [h1, h2]
theorem check_entry (n : Nat) (em : Bool) (a b : Nat) (w : World) : (Instr.checkKey em (n + 2) 151 (keyV a b)).run Tryz.prog w = .ok () w := by
  obtain ⟨f, g, e⟩ := two_of_len fields_two
  have e2 := fields_list
  rw [e] at e2
  simp at e2
  obtain ⟨⟨n1, t1, o1⟩, n2, t2, o2⟩ := e2
  obtain ⟨i8, h8, z8⟩ := Option.map_eq_some_iff.1 size_u8
  obtain ⟨i64, h64, z64⟩ := Option.map_eq_some_iff.1 size_u64
  have ea : Tryz.prog.fieldsOf 151 = #[f, g] := by rw [← Array.toList_inj, e]
  unfold keyV
  simp [Instr.checkKey, run_underlying fields_entry, ea, n1, n2, t1, t2, o1, o2, part, isAgg, sizeOf, typeInfo, h8, h64, z8, z64, run_underlying Tryz.underlying5, run_underlying Tryz.underlying34, Result.andThen]
/-- the entries: a length, a code, a byte -/
abbrev Ent := Nat × Nat × Nat
def EntsL (es : List MapEntry) (E : List Ent) : Prop := es.map (fun e => (e.key, e.val)) = E.map (fun x => (keyV x.1 x.2.1, Value.int .u8 x.2.2))
def findE (E : List Ent) (k c : Nat) : Option Ent := E.find? fun x => decide (k = x.1 ∧ c = x.2.1)
theorem find_asking (k c : Nat) (w : World) : ∀ (E : List Ent) (es : List MapEntry) (i : Nat), EntsL es E → ∃ r, (Instr.findAsking 151 (keyV k c) es i).run Tryz.prog w = .ok r w ∧ r.map (·.2) = (findE E k c).map fun x => Value.int .u8 x.2.2
  | [], es, i, h => by
    unfold EntsL at h
    rw [List.map_nil, List.map_eq_nil_iff] at h
    subst h
    exact ⟨none, rfl, rfl⟩
  | x :: E, [], i, h => by cases h
  | x :: E, e :: es, i, h => by
    unfold EntsL at h
    rw [List.map_cons, List.map_cons, List.cons.injEq] at h
    obtain ⟨h1, h2⟩ := h
    simp only [Prod.mk.injEq] at h1
    obtain ⟨h1, h3⟩ := h1
    obtain ⟨r, hr, hr2⟩ := find_asking k c w E es (i + 1) h2
    have he := equal_entry 9998 k c x.1 x.2.1 w
    have e9 : (Op.equal 151 (keyV k c) e.key).run Tryz.prog w = .ok (decide (k = x.1 ∧ c = x.2.1)) w := by rw [h1]; exact he
    by_cases hk : k = x.1 ∧ c = x.2.1
    · rw [decide_eq_true hk] at e9
      refine ⟨some (i, e.val), ?_, ?_⟩
      · simp [Instr.findAsking, e9, Result.andThen]
      · simp [findE, hk, h3]
    · rw [decide_eq_false hk] at e9
      refine ⟨r, ?_, ?_⟩
      · simp [Instr.findAsking, e9, hr, Result.andThen]
      · rw [hr2]; simp [findE, hk]
theorem find_key (k c : Nat) (w : World) (E : List Ent) (es : List MapEntry) (h : EntsL es E) : ∃ r, (Instr.findKey 151 (keyV k c) es).run Tryz.prog w = .ok r w ∧ r.map (·.2) = (findE E k c).map fun x => Value.int .u8 x.2.2 := by
  obtain ⟨r, hr, hr2⟩ := find_asking k c w E es 0 h
  cases es with
  | nil =>
    have e : E = [] := by
      cases E with
      | nil => rfl
      | cons x E => cases h
    subst e
    exact ⟨none, by simp [Instr.findKey, run_underlying fields_entry, Instr.findNow, Result.andThen], rfl⟩
  | cons e es =>
    refine ⟨r, ?_, hr2⟩
    simp [Instr.findKey, run_underlying fields_entry, Instr.findNow, Instr.sameNow, Result.andThen, hr]
/-- a map, known whole -/
def mapT (b : Nat) (E : List Ent) : Thing where
  holds w fp := (∃ es clock, w.heap[b]? = some (.map es clock) ∧ EntsL es.toList E) ∧ fp = fun k => k = b
  keep h m hd := ⟨by obtain ⟨es, clock, h1, h2⟩ := h.1; exact ⟨es, clock, m.heap (hd _ (by rw [h.2])) h1, h2⟩, h.2⟩
  lt h hk := by rw [h.2] at hk; cases hk; obtain ⟨es, clock, h1, h2⟩ := h.1; exact lt_of_block h1
theorem run_lookup {S : Nat → Prop} {W w : World} {b : Nat} {E : List Ent} {M : List Thing} (h : St S W w (mapT b E :: M)) (k c : Nat) :
    (Instr.lookup 131 (.map (some b)) (keyV k c) true).run Tryz.prog w = .ok (.tuple #[match findE E k c with | some x => .int .u8 x.2.2 | none => .int .u8 0, .bool (findE E k c).isSome]) w := by
  obtain ⟨fp, ⟨es, clock, h1, h2⟩, _⟩ := h.head
  obtain ⟨r, hr, hr2⟩ := find_key k c w E es.toList h2
  have hc := check_entry 9998 es.isEmpty k c w
  have hz : (zeroValue 5).run Tryz.prog w = .ok (.int .u8 0) w := by kernel_rfl
  have hu := Tryz.underlying131
  cases hf : findE E k c with
  | none =>
    rw [hf] at hr2
    have e : r = none := by simpa using hr2
    subst e
    simp [Instr.lookup, run_underlying hu, MapKept.run_getObj_map h1, hc, hr, hz, Result.andThen]
  | some x =>
    rw [hf] at hr2
    obtain ⟨⟨j, v⟩, e, hv⟩ := Option.map_eq_some_iff.1 hr2
    subst e
    simp only at hv
    subst hv
    simp [Instr.lookup, run_underlying hu, MapKept.run_getObj_map h1, hc, hr, Result.andThen]
def World.setObj' (w : World) (b : Nat) (o : Obj) : World := { w with heap := w.heap.setIfInBounds b o }
theorem Mut.setObj' {w : World} (b : Nat) (o : Obj) : Mut (oneB b) w (World.setObj' w b o) := ⟨rfl, rfl, rfl, by simp [World.setObj'], fun k _ hk => by
  show (w.heap.setIfInBounds b o)[k]? = _
  rw [Array.getElem?_setIfInBounds, if_neg (fun e => hk e.symm)]⟩
theorem run_update {S : Nat → Prop} {W w : World} {b : Nat} {E : List Ent} {M : List Thing} (h : St S W w (mapT b E :: M)) (k c x : Nat) (hn : findE E k c = none) :
    ∃ o, (Instr.mapUpdate 131 (.map (some b)) (keyV k c) (.int .u8 x)).run Tryz.prog w = .ok () (World.setObj' w b o) ∧ St S W (World.setObj' w b o) (mapT b (E ++ [(k, c, x)]) :: M) := by
  obtain ⟨fp, ⟨es, clock, h1, h2⟩, _⟩ := h.head
  obtain ⟨r, hr, hr2⟩ := find_key k c w E es.toList h2
  have hc := check_entry 9998 false k c w
  have hu := Tryz.underlying131
  rw [hn] at hr2
  have e : r = none := by simpa using hr2
  subst e
  refine ⟨.map (es.push { key := keyV k c, val := .int .u8 x, born := clock }) (clock + 1), ?_, ?_⟩
  · simp [Instr.mapUpdate, run_underlying hu, MapKept.run_getObj_map h1, hc, hr, MapKept.run_setObj_map _ h1, Result.andThen, World.setObj']
  · refine h.upd (fun fp h3 => ⟨fp, ⟨⟨_, _, (?_ : _ = some (Obj.map (es.push { key := keyV k c, val := .int .u8 x, born := clock }) (clock + 1))), ?_⟩, h3.2⟩, by rw [h3.2]; exact Mut.setObj' b _, fun k hk => .inl hk⟩)
    · show (w.heap.setIfInBounds b _)[b]? = _
      rw [Array.getElem?_setIfInBounds, if_pos rfl, if_pos (lt_of_block h1)]
    · unfold EntsL at *
      rw [Array.toList_push, List.map_append, h2, List.map_append]; rfl
theorem St.newMap {S : Nat → Prop} {W w : World} {M : List Thing} (h : St S W w M) : St S W (w.alloc (.map #[] 0)) (mapT w.heap.size [] :: M) :=
  h.add ((Mut.refl _ _).alloc _) ⟨_, ⟨⟨#[], 0, heap_alloc_new _ _, rfl⟩, rfl⟩, fun k hk => by cases hk; exact Nat.le_refl _⟩
end Go.Proofs.YtjdglpngcdcneaaGreat

/- Layer 7: the book of codes. -/
namespace Go.Proofs.YtjdglpngcdcneaaGreat
open Go.RowKit
set_option linter.unusedVariables false
set_option linter.unusedSimpArgs false
set_option linter.unusedSectionVars false
def bookL (L C : Nat → Nat) : Nat → List Ent
  | 0 => []
  | i + 1 => if 0 < L i then bookL L C i ++ [(L i, C i, i)] else bookL L C i
theorem bookL_mem (L C : Nat → Nat) : ∀ (i : Nat) (x : Ent), x ∈ bookL L C i ↔ ∃ j, j < i ∧ 0 < L j ∧ x = (L j, C j, j)
  | 0, x => ⟨fun h => (List.not_mem_nil h).elim, fun ⟨j, h, _⟩ => by omega⟩
  | i + 1, x => by
    unfold bookL
    by_cases h0 : 0 < L i
    · rw [if_pos h0, List.mem_append, bookL_mem L C i x, List.mem_singleton]
      constructor
      · rintro (⟨j, h1, h2, h3⟩ | h)
        · exact ⟨j, by omega, h2, h3⟩
        · exact ⟨i, by omega, h0, h⟩
      · rintro ⟨j, h1, h2, h3⟩
        by_cases e : j = i
        · subst e; exact .inr h3
        · exact .inl ⟨j, by omega, h2, h3⟩
    · rw [if_neg h0, bookL_mem L C i x]
      constructor
      · rintro ⟨j, h1, h2, h3⟩; exact ⟨j, by omega, h2, h3⟩
      · rintro ⟨j, h1, h2, h3⟩
        by_cases e : j = i
        · subst e; exact absurd h2 h0
        · exact ⟨j, by omega, h2, h3⟩
theorem findE_none {E : List Ent} {k c : Nat} : findE E k c = none ↔ ∀ x ∈ E, ¬ (k = x.1 ∧ c = x.2.1) := by
  unfold findE; rw [List.find?_eq_none]; simp
/-- no two bytes have one code -/
def Apart (L C : Nat → Nat) : Prop := ∀ i j, i < 256 → j < 256 → 0 < L i → L i = L j → C i = C j → i = j
theorem book_new {L C : Nat → Nat} (hd : Apart L C) (i : Nat) (hi : i < 256) (h0 : 0 < L i) : findE (bookL L C i) (L i) (C i) = none := findE_none.2 fun x hx => by
  obtain ⟨j, h1, h2, rfl⟩ := (bookL_mem L C i x).1 hx
  rintro ⟨e1, e2⟩
  have := hd i j hi (by omega) h0 e1 e2
  omega
theorem wpList_update {S : Nat → Prop} {W w : World} {b : Nat} {E : List Ent} {M : List Thing} {ops : Array Oper} {rest : List Oper} {o : Oper} {a : Act} {Q : Exit → Act → World → Prop}
    (hg : o.guard = none) (m x v : Operand) (hop : o.op = Op.mapUpdate 131 m x v) (h : St S W w (mapT b E :: M)) (k c y : Nat) (hn : findE E k c = none)
    (hm : a.eval m = .map (some b)) (hx : a.eval x = keyV k c) (hv : a.eval v = .int .u8 y)
    (hK : ∀ w', St S W w' (mapT b (E ++ [(k, c, y)]) :: M) → wpList Tryz.prog ops Q rest (a.put o.dst undef) w') : wpList Tryz.prog ops Q (o :: rest) a w := by
  refine wpList_plain hg fun K' hK' => ?_
  obtain ⟨ob, hrun, h2⟩ := run_update h k c y hn
  unfold Oper.wp
  simp [execOp, hop, hm, hx, hv, hrun, Result.andThen]
  exact hK' _ _ (hK _ h2)
set_option maxRecDepth 20000 in
set_option maxHeartbeats 2000000 in
theorem book_st {S : Nat → Prop} {W w : World} {M : List Thing} (h : St S W w M) (L C : Nat → Nat) (hL : ∀ i, L i < 256) (hC : ∀ i, C i < 18446744073709551616) (hd : Apart L C) (bk : List Ent) (hb : bk = bookL L C 256) :
    Calls Tryz.prog 84 #[.agg (tabV .u8 L), .agg (tabV .u64 C)] w fun e w' => ∃ b, e = .returned (.map (some b)) ∧ St S W w' (mapT b bk :: M) := by
  have HB := Lib.hid hb
  clear hb
  obtain ⟨T8, hT8⟩ : ∃ T8, T8 = tabV .u8 L := ⟨_, rfl⟩
  have hT0 : ∀ i, i < 256 → T8[i]? = some (.int .u8 (L i)) := fun i hi => by rw [hT8]; exact tabV_get _ _ i hi
  have hTs : T8.size = 256 := by rw [hT8, tabV_size]
  rw [← hT8]
  have h1 := (h.alloc T8 74).alloc (tabV .u64 C) 76
  rw [size_alloc'] at h1
  have hq := Lib.hid (fun o => (((St.ext h1 ((Mut.refl noB _).alloc o))).pull 1).blk)
  have hs8 : (Tryz.prog.info? 74).map (·.size) = some T8.size := by rw [hTs]; kernel_rfl
  have h2 := h1.newMap
  have hmm := fun w => run_makeMap (P := Tryz.prog) 131 w
  clear hT8 h h1
  go_enter Tryz.func84, Tryz.ntmps84
  go_wp2_with (refine wpList_load_row rfl _ _ rfl w.heap.size rfl 74 T8 (0, 0) (.array 256 5) (hq.out _) Tryz.underlying74 rfl hs8 ?_)
  rw [size_alloc', size_alloc'] at h2
  clear hq hs8 hmm
  generalize ((w.alloc (.cells T8 74)).alloc (.cells (tabV .u64 C) 76)).alloc (.map #[] 0) = w1 at h2 ⊢
  generalize w.heap.size + 1 + 1 = mb at h2 ⊢
  generalize w.heap.size + 1 = cb at h2 ⊢
  generalize w.heap.size = lb at h2 ⊢
  go_loopw [10] (fun v10 wr => ∃ i : Nat, v10 = .int .i64 i ∧ i ≤ 256 ∧ St S W wr (mapT mb (bookL L C i) :: blkT cb (tabV .u64 C) 76 :: blkT lb T8 74 :: M)) (fun v10 _ => 256 - (intOf v10).toNat)
  case atStart => exact ⟨0, rfl, by omega, h2⟩
  case round =>
    clear h2
    obtain ⟨i, rfl, hi, h⟩ := hrel
    by_cases hlt : i < 256
    · have hl1 : (i : Int) < 256 := by omega
      have hT1 := fun w => index8 T8 i _ hlt (hT0 i hlt) w
      have kc := cell_of_heap (h.pull 1).blk i
      rw [tabV_get _ _ _ hlt] at kc
      have hLi := hL i
      by_cases hz : 0 < L i
      · have hz2 : (0 : Int) < (L i : Int) := by omega
        have HE : Hid (bookL L C (i + 1) = bookL L C i ++ [(L i, C i, i)]) := Lib.hid (by rw [bookL, if_pos hz])
        have hn := book_new hd i hlt hz
        have hw8 : IntKind.u8.wrap (i : Int) = (i : Int) := by rw [IntKind.wrap_u8]; omega
        have HN := Lib.hid hn
        clear hn hz
        generalize L i = x at *
        generalize C i = y at *
        generalize bookL L C i = E at *
        go_wp2_with (at_mapUpdate; refine wpList_update rfl _ _ _ rfl h x y i HN.out rfl rfl rfl ?_; intro w3 h3)
        rw [← HE.out] at h3
        exact ⟨⟨i + 1, by go_num, by omega, h3⟩, by simp only [intOf]; omega⟩
      · have hz2 : ¬ (0 : Int) < (L i : Int) := by omega
        have E : bookL L C (i + 1) = bookL L C i := by rw [bookL, if_neg hz]
        rw [← E] at h
        clear E
        generalize L i = x at hT1 hz2
        go_wp2_with fail
        go_roundw
        case rel => first | exact ⟨i + 1, by go_num, by omega, h⟩ | ((repeat apply Exists.intro); exact ⟨⟨i + 1, by go_num, by omega, h⟩, rfl⟩)
        case measure => first | (simp [intOf]; done) | (simp [intOf]; omega)
    · obtain rfl : i = 256 := by omega
      have hl1 : ¬ ((256 : Nat) : Int) < 256 := by omega
      rw [← HB.out] at h
      go_wp2_with fail
      go_ret
      exact ⟨mb, rfl, ((h.pull 1).drop.pull 1).drop⟩
end Go.Proofs.YtjdglpngcdcneaaGreat

/- Layer 7: the byte whose code comes next. -/
namespace Go.Proofs.YtjdglpngcdcneaaGreat
open Go.RowKit
set_option linter.unusedVariables false
set_option linter.unusedSimpArgs false
set_option linter.unusedSectionVars false
/-- the byte whose code comes next, behind k bits; and where it ends -/
def oneG (E : List Ent) (f : Nat → Bool) (N a : Nat) : Nat → Nat → Option (Nat × Nat)
  | 0, k => none
  | m + 1, k => if N < a + k + 1 then none else match findE E (k + 1) (nm f a (k + 1)) with
    | some x => some (x.2.2, a + k + 1)
    | none => oneG E f N a m (k + 1)
def oneP (E : List Ent) (f : Nat → Bool) (N a : Nat) : Option (Nat × Nat) := oneG E f N a 56 0
theorem wpList_look {w : World} {b : Nat} {ops : Array Oper} {rest : List Oper} {o : Oper} {a : Act} {Q : Exit → Act → World → Prop}
    (hg : o.guard = none) (m x : Operand) (hop : o.op = Op.lookup 131 m x true) (k c : Nat) (v : Value) (ok : Bool)
    (hm : a.eval m = .map (some b)) (hx : a.eval x = keyV k c) (hrun : (Instr.lookup 131 (.map (some b)) (keyV k c) true).run Tryz.prog w = .ok (.tuple #[v, .bool ok]) w)
    (hK : wpList Tryz.prog ops Q rest (a.put o.dst (.tuple #[v, .bool ok])) w) : wpList Tryz.prog ops Q (o :: rest) a w := by
  refine wpList_plain hg fun K' hK' => ?_
  unfold Oper.wp
  simp [execOp, hop, hm, hx, hrun, Result.andThen]
  exact hK' _ _ hK
theorem look_some {S : Nat → Prop} {W w : World} {b : Nat} {E : List Ent} {M : List Thing} (h : St S W w (mapT b E :: M)) (k c : Nat) (x : Ent) (hr : findE E k c = some x) :
    (Instr.lookup 131 (.map (some b)) (keyV k c) true).run Tryz.prog w = .ok (.tuple #[.int .u8 x.2.2, .bool true]) w := by
  have := run_lookup h k c
  rw [hr] at this; exact this
theorem look_none {S : Nat → Prop} {W w : World} {b : Nat} {E : List Ent} {M : List Thing} (h : St S W w (mapT b E :: M)) (k c : Nat) (hr : findE E k c = none) :
    (Instr.lookup 131 (.map (some b)) (keyV k c) true).run Tryz.prog w = .ok (.tuple #[.int .u8 0, .bool false]) w := by
  have := run_lookup h k c
  rw [hr] at this; exact this
set_option maxRecDepth 20000 in
set_option maxHeartbeats 2000000 in
theorem one_st {S : Nat → Prop} {W w : World} {M : List Thing} {b mb a : Nat} {s : ByteArray} {E : List Ent} (h : St S W w (brT b s a :: mapT mb E :: M)) (ha : a ≤ 8 * s.size) (hs : s.size ≤ 140737488355328) (R : Option (Nat × Nat)) (hR : R = oneP E (sb s.data.toList) (8 * s.size) a) :
    Calls Tryz.prog 85 #[.pointer (some ⟨b, 0, none⟩), .map (some mb)] w fun e w' => ∃ x a' : Nat, a' ≤ 8 * s.size ∧ e = .returned (.tuple #[.int .u8 x, .bool R.isSome]) ∧ (∀ y, R = some y → x = y.1 ∧ a' = y.2) ∧ St S W w' (brT b s a' :: mapT mb E :: M) := by
  have HR : Hid (R = oneG E (sb s.data.toList) (8 * s.size) a (56 - 0) 0) := Lib.hid hR
  clear hR
  go_enter Tryz.func85, Tryz.ntmps85
  go_wp2_with fail
  go_loopw [6, 12] (fun v6 v12 wr => ∃ k : Nat, k ≤ 56 ∧ v6 = .int .u64 (nm (sb s.data.toList) a k : Nat) ∧ v12 = .int .u8 k ∧ a + k ≤ 8 * s.size ∧ Hid (R = oneG E (sb s.data.toList) (8 * s.size) a (56 - k) k) ∧ St S W wr (brT b s (a + k) :: mapT mb E :: M)) (fun _ v12 _ => 56 - (intOf v12).toNat)
  case atStart => exact ⟨0, by omega, rfl, rfl, by omega, HR, h⟩
  case round =>
    clear h HR
    obtain ⟨k, hk, rfl, rfl, hak, HR, h⟩ := hrel
    by_cases hlt : k < 56
    · have hl1 : (k : Int) < 56 := by omega
      have E1 : 56 - k = (56 - (k + 1)) + 1 := by omega
      have hR := HR.out
      rw [E1, oneG] at hR
      by_cases hN : 8 * s.size < a + k + 1
      · rw [if_pos hN] at hR
        have HT := Lib.hid (btake_end h hak hs 1 (by omega) (by omega))
        have HRR := Lib.hid hR
        clear hR HR E1
        generalize nm (sb s.data.toList) a k = x at *
        go_wp2_with fail
        refine HT.out.mono ?_
        rintro _ w2 ⟨rfl, x2⟩
        go_wp2_with fail
        go_ret2
        rw [HRR.out]
        exact ⟨0, a + k, hak, rfl, (fun y hy => nomatch hy), h.ext x2⟩
      · rw [if_neg hN] at hR
        have HT := Lib.hid (btake_st h hs 1 (by omega) (by omega))
        have hnl := nm_lt (sb s.data.toList) a k
        have hp : 2 ^ k ≤ 2 ^ 55 := Nat.pow_le_pow_right (by omega) (by omega)
        have e1 : nm (sb s.data.toList) (a + k) 1 = (sb s.data.toList (a + k)).toNat := by simp [nm]
        have e2 : nm (sb s.data.toList) a (k + 1) = nm (sb s.data.toList) a k * 2 + (sb s.data.toList (a + k)).toNat := rfl
        have hb : (sb s.data.toList (a + k)).toNat ≤ 1 := Bool.toNat_le _
        rw [e1] at HT
        generalize (sb s.data.toList (a + k)).toNat = bit at HT e2 hb
        generalize hx : nm (sb s.data.toList) a k = x at *
        have HE := Lib.hid e2
        have hxb : x < 36028797018963968 := by omega
        have hw1 : IntKind.u64.wrap ((x : Int) * 2) = (x : Int) * 2 := by rw [IntKind.wrap_u64]; omega
        have hor : bits .or .u64 ((x : Int) * 2) (bit : Int) = ((nm (sb s.data.toList) a (k + 1) : Nat) : Int) := by
          rw [e2, show (x : Int) * 2 = ((x * 2 : Nat) : Int) by omega, u64_or_nat _ _ (by omega) (by omega), nat_join 1 (x * 2) bit (by omega) (by omega)]
        have hk8 : IntKind.u8.wrap ((k : Int) + 1) = (k : Int) + 1 := by rw [IntKind.wrap_u8]; omega
        obtain ⟨c, hc⟩ : ∃ c, c = nm (sb s.data.toList) a (k + 1) := ⟨_, rfl⟩
        rw [← hc] at hR hor HE e2
        have HC0 := Lib.hid hc
        clear hc
        cases hr : findE E (k + 1) c with
        | some y =>
          rw [hr] at hR
          have HRR : Hid (R = some (y.2.2, a + k + 1)) := Lib.hid hR
          have HF := Lib.hid hr
          clear hR HR E1 hr e1 e2 h hx hp hnl
          obtain ⟨y1, y2, y3⟩ := y
          simp only at HRR
          go_wp2_with fail
          refine HT.out.mono ?_
          rintro _ w2 ⟨rfl, h2⟩
          go_wp2_with (refine wpList_look rfl _ _ rfl (k + 1) c (.int .u8 y3) true rfl rfl (look_some (h2.pull 1) (k + 1) c _ HF.out) ?_)
          go_ret2
          rw [HRR.out]
          exact ⟨y3, a + k + 1, by omega, rfl, (fun y hy => by cases hy; exact ⟨rfl, rfl⟩), h2⟩
        | none =>
          rw [hr] at hR
          have HRR : Hid (R = oneG E (sb s.data.toList) (8 * s.size) a (56 - (k + 1)) (k + 1)) := Lib.hid hR
          have HF := Lib.hid hr
          clear hR HR E1 hr e1 e2 h hx hp hnl
          go_wp2_with fail
          refine HT.out.mono ?_
          rintro _ w2 ⟨rfl, h2⟩
          have HC : Hid (c = nm (sb s.data.toList) a (k + 1)) := HC0
          go_wp2_with (refine wpList_look rfl _ _ rfl (k + 1) c (.int .u8 0) false rfl rfl (look_none (h2.pull 1) (k + 1) c HF.out) ?_)
          rw [HC.out]
          exact ⟨⟨k + 1, by omega, rfl, by go_num, by omega, HRR, h2⟩, by simp only [intOf]; omega⟩
    · obtain rfl : k = 56 := by omega
      have hl1 : ¬ ((56 : Nat) : Int) < 56 := by omega
      have HRR : Hid (R = none) := Lib.hid (by rw [HR.out]; rfl)
      clear HR
      generalize nm (sb s.data.toList) a 56 = x at *
      go_wp2_with fail
      go_ret2
      rw [HRR.out]
      refine ⟨0, a + 56, hak, rfl, ?_, h⟩
      simp
end Go.Proofs.YtjdglpngcdcneaaGreat

/- Layer 7: what the codes are: plain. -/
namespace Go.Proofs.YtjdglpngcdcneaaGreat
open Go.RowKit
set_option linter.unusedVariables false
set_option linter.unusedSimpArgs false
set_option linter.unusedSectionVars false
/-- how many of the first i lengths are k -/
def nOf (t : Nat → Nat) (k : Nat) : Nat → Nat
  | 0 => 0
  | i + 1 => nOf t k i + (if t i = k then 1 else 0)
/-- what stands behind the codes of k bits and fewer -/
def eOf (t : Nat → Nat) : Nat → Nat
  | 0 => 0
  | k + 1 => eOf t k * 2 + nOf t (k + 1) 256
theorem nOf_mono (t : Nat → Nat) (k : Nat) {i j : Nat} (h : i ≤ j) : nOf t k i ≤ nOf t k j := by
  induction j with
  | zero => rw [Nat.le_zero.1 h]; exact Nat.le_refl _
  | succ j ih =>
    by_cases e : i = j + 1
    · rw [e]; exact Nat.le_refl _
    · rw [nOf]; have := ih (by omega); omega
theorem nOf_lt (t : Nat → Nat) (k : Nat) {i j : Nat} (h : i < j) (hi : t i = k) : nOf t k i < nOf t k j := by
  have h1 : nOf t k (i + 1) = nOf t k i + 1 := by rw [nOf, if_pos hi]
  have := nOf_mono t k (show i + 1 ≤ j by omega)
  omega
/-- the parts of the codes of k bits and fewer, of the first i -/
def sumK (t : Nat → Nat) (k : Nat) : Nat → Nat
  | 0 => 0
  | i + 1 => sumK t k i + (if 0 < t i ∧ t i ≤ k then 2 ^ (56 - t i) else 0)
theorem sumK_le (t : Nat → Nat) (k : Nat) : ∀ i, sumK t k i ≤ sumT t i
  | 0 => Nat.le_refl _
  | i + 1 => by
    have := sumK_le t k i
    rw [sumK, sumT]
    by_cases h : 0 < t i
    · have := Nat.two_pow_pos (56 - t i)
      rw [if_pos h]; split <;> omega
    · rw [if_neg h, if_neg (fun e => h e.1)]; omega
theorem sumK_zero (t : Nat → Nat) : ∀ i, sumK t 0 i = 0
  | 0 => rfl
  | i + 1 => by rw [sumK, sumK_zero t i, if_neg (by omega)]
theorem sumK_succ (t : Nat → Nat) (k : Nat) : ∀ i, sumK t (k + 1) i = sumK t k i + nOf t (k + 1) i * 2 ^ (56 - (k + 1))
  | 0 => by simp [sumK, nOf]
  | i + 1 => by
    rw [sumK, sumK, nOf, sumK_succ t k i, Nat.add_mul]
    by_cases h : t i = k + 1
    · rw [if_pos (by omega), if_neg (by omega), if_pos h, h]; omega
    · rw [if_neg h]
      by_cases h2 : 0 < t i ∧ t i ≤ k
      · rw [if_pos (by omega), if_pos h2]; omega
      · rw [if_neg (by omega), if_neg h2]; omega
theorem eOf_sum (t : Nat → Nat) : ∀ k, k ≤ 56 → eOf t k * 2 ^ (56 - k) = sumK t k 256
  | 0, _ => by rw [eOf, Nat.zero_mul, sumK_zero]
  | k + 1, h => by
    rw [eOf, sumK_succ, ← eOf_sum t k (by omega), Nat.add_mul, show 56 - k = 56 - (k + 1) + 1 by omega, Nat.pow_succ, Nat.mul_assoc, Nat.mul_comm 2 (2 ^ _)]
theorem eOf_le (t : Nat → Nat) (hs : sumT t 256 ≤ 72057594037927936) (k : Nat) (hk : k ≤ 56) : eOf t k ≤ 2 ^ k := by
  have h1 := eOf_sum t k hk
  have h2 := sumK_le t k 256
  have h3 : (72057594037927936 : Nat) = 2 ^ k * 2 ^ (56 - k) := by rw [← Nat.pow_add, show k + (56 - k) = 56 by omega]
  have h4 : eOf t k * 2 ^ (56 - k) ≤ 2 ^ k * 2 ^ (56 - k) := by rw [← h3, h1]; omega
  exact Nat.le_of_mul_le_mul_right h4 (Nat.two_pow_pos _)
theorem eOf_grow (t : Nat → Nat) (k : Nat) : ∀ d, eOf t k * 2 ^ d ≤ eOf t (k + d)
  | 0 => by simp
  | d + 1 => by
    have := eOf_grow t k d
    rw [← Nat.add_assoc, eOf, Nat.pow_succ, ← Nat.mul_assoc]
    omega
theorem cIn_eq (t : Nat → Nat) (k : Nat) (a : Nat) (c : Nat → Nat) : ∀ i, i ≤ 256 → a + nOf t (k + 1) 256 < 18446744073709551616 →
    cIn t k i (a, c) = (a + nOf t (k + 1) i, fun j => if j < i ∧ t j = k + 1 then a + nOf t (k + 1) j else c j)
  | 0, _, _ => by
    rw [cIn, nOf]
    simp
  | i + 1, hi, h => by
    have hm := nOf_mono t (k + 1) hi
    rw [cIn, cIn_eq t k a c i (by omega) h, nOf]
    by_cases e : t i = k + 1
    · rw [if_pos e, if_pos e]
      rw [nOf, if_pos e] at hm
      refine Prod.ext ?_ ?_
      · show (a + nOf t (k + 1) i + 1) % 18446744073709551616 = _
        rw [Nat.mod_eq_of_lt (by omega)]; omega
      · funext j
        show upd _ i (a + nOf t (k + 1) i) j = _
        unfold upd
        dsimp only
        by_cases ej : j = i
        · subst ej; rw [if_pos rfl, if_pos ⟨by omega, e⟩]
        · rw [if_neg ej]
          by_cases h2 : j < i ∧ t j = k + 1
          · rw [if_pos h2, if_pos ⟨by omega, h2.2⟩]
          · rw [if_neg h2, if_neg (fun h3 => h2 ⟨by omega, h3.2⟩)]
    · rw [if_neg e, if_neg e]
      refine Prod.ext rfl ?_
      funext j
      dsimp only
      by_cases h2 : j < i ∧ t j = k + 1
      · rw [if_pos h2, if_pos ⟨by omega, h2.2⟩]
      · rw [if_neg h2, if_neg (fun h3 => h2 ⟨by
          by_cases ej : j = i
          · subst ej; exact absurd h3.2 e
          · omega, h3.2⟩)]
/-- a code: what stands behind the shorter ones, and how many of its length are ahead of it -/
def codeOf (t : Nat → Nat) (j : Nat) : Nat := eOf t (t j - 1) * 2 + nOf t (t j) j
theorem cOut_eq (t : Nat → Nat) (hs : sumT t 256 ≤ 72057594037927936) : ∀ k, k ≤ 56 → cOut t k = (eOf t k, fun j => if j < 256 ∧ 0 < t j ∧ t j ≤ k then codeOf t j else 0)
  | 0, _ => by
    rw [cOut, eOf]
    refine Prod.ext rfl ?_
    funext j
    dsimp only
    rw [if_neg (by omega)]
  | k + 1, h => by
    have he := eOf_le t hs (k + 1) h
    rw [eOf] at he
    have hp : 2 ^ (k + 1) ≤ 2 ^ 56 := Nat.pow_le_pow_right (by omega) h
    have h56 : (2 : Nat) ^ 56 = 72057594037927936 := rfl
    rw [cOut, cOut_eq t hs k (by omega)]
    simp only
    rw [Nat.mod_eq_of_lt (by omega), cIn_eq t k _ _ 256 (Nat.le_refl _) (by omega), eOf]
    refine Prod.ext rfl ?_
    funext j
    dsimp only
    by_cases h2 : j < 256 ∧ t j = k + 1
    · rw [if_pos h2, if_pos ⟨h2.1, by omega, by omega⟩, codeOf, h2.2]; rfl
    · rw [if_neg h2]
      by_cases h3 : j < 256 ∧ 0 < t j ∧ t j ≤ k
      · rw [if_pos h3, if_pos ⟨h3.1, h3.2.1, by omega⟩]
      · rw [if_neg h3, if_neg (fun h4 => h3 ⟨h4.1, h4.2.1, by
          by_cases e : t j = k + 1
          · exact absurd ⟨h4.1, e⟩ h2
          · omega⟩)]
theorem codE_zero {t : Nat → Nat} (h : codE t = 0) : (∀ i, i < 256 → t i ≤ 56) ∧ sumT t 256 ≤ 72057594037927936 := by
  unfold codE at h
  by_cases hg : greatT t = true
  · rw [if_pos hg] at h; omega
  · rw [if_neg hg] at h
    refine ⟨fun i hi => ?_, ?_⟩
    · unfold greatT at hg
      rw [List.any_eq_true] at hg
      rcases Nat.lt_or_ge 56 (t i) with h1 | h1
      · exact absurd ⟨i, List.mem_range.2 hi, decide_eq_true h1⟩ hg
      · exact h1
    · split at h
      · omega
      · rename_i h2
        by_cases h3 : sumT t 256 = 72057594037927936
        · omega
        · by_cases h4 : 0 < cntT t 256
          · have : cntT t 256 = 1 ∧ sumT t 256 = 36028797018963968 := by
              rcases Decidable.em (cntT t 256 = 1 ∧ sumT t 256 = 36028797018963968) with h5 | h5
              · exact h5
              · exact absurd ⟨h4, h3, h5⟩ h2
            omega
          · have h5 : ∀ i, cntT t i = 0 → sumT t i = 0 := by
              intro i
              induction i with
              | zero => intro _; rfl
              | succ i ih =>
                intro h6
                rw [cntT] at h6
                rw [sumT, ih (by omega)]
                by_cases h7 : 0 < t i
                · rw [if_pos h7] at h6; omega
                · rw [if_neg h7]
            rw [h5 256 (by omega)]; omega
theorem codT_eq {t : Nat → Nat} (h : codE t = 0) {j : Nat} (hj : j < 256) (h0 : 0 < t j) : codT t j = codeOf t j := by
  obtain ⟨h1, h2⟩ := codE_zero h
  have := h1 j hj
  unfold codT
  rw [if_pos h, cOut_eq t h2 56 (Nat.le_refl _)]
  dsimp only
  rw [if_pos ⟨hj, h0, this⟩]
theorem codeOf_lt (t : Nat → Nat) {j : Nat} (hj : j < 256) (h0 : 0 < t j) : codeOf t j < eOf t (t j) := by
  obtain ⟨k, hk⟩ : ∃ k, t j = k + 1 := ⟨t j - 1, by omega⟩
  have := nOf_lt t (t j) hj rfl
  unfold codeOf
  rw [hk] at this ⊢
  rw [eOf, Nat.add_sub_cancel]; omega
theorem codT_bits {t : Nat → Nat} (h : codE t = 0) {j : Nat} (hj : j < 256) (h0 : 0 < t j) : codT t j < 2 ^ t j := by
  obtain ⟨h1, h2⟩ := codE_zero h
  rw [codT_eq h hj h0]
  have := codeOf_lt t hj h0
  have := eOf_le t h2 (t j) (h1 j hj)
  omega
/-- no code begins another one -/
theorem codT_free {t : Nat → Nat} (h : codE t = 0) {i j : Nat} (hi : i < 256) (hj : j < 256) (hij : i ≠ j) (h0 : 0 < t i) (hle : t i ≤ t j) : codT t j / 2 ^ (t j - t i) ≠ codT t i := by
  rw [codT_eq h hi h0, codT_eq h hj (by omega)]
  rcases Nat.lt_or_ge (t i) (t j) with hlt | hge
  · have h1 := codeOf_lt t hi h0
    have h2 := eOf_grow t (t i) (t j - 1 - t i)
    rw [show t i + (t j - 1 - t i) = t j - 1 by omega] at h2
    have h3 : eOf t (t i) * 2 ^ (t j - t i) ≤ codeOf t j := by
      rw [show t j - t i = (t j - 1 - t i) + 1 by omega, Nat.pow_succ, ← Nat.mul_assoc]
      unfold codeOf; omega
    have h4 : eOf t (t i) ≤ codeOf t j / 2 ^ (t j - t i) := (Nat.le_div_iff_mul_le (Nat.two_pow_pos _)).2 h3
    omega
  · have e : t i = t j := by omega
    rw [e, Nat.sub_self, Nat.pow_zero, Nat.div_one]
    unfold codeOf
    rw [e]
    rcases Nat.lt_or_ge i j with h5 | h5
    · have := nOf_lt t (t j) h5 e; omega
    · have := nOf_lt t (t j) (show j < i by omega) rfl; omega
theorem apart_codT {t : Nat → Nat} (h : codE t = 0) : Apart t (codT t) := fun i j hi hj h0 e1 e2 => by
  rcases Decidable.em (i = j) with h1 | h1
  · exact h1
  · have := codT_free h hi hj h1 h0 (by omega)
    rw [← e1, Nat.sub_self, Nat.pow_zero, Nat.div_one] at this
    exact absurd e2.symm this
end Go.Proofs.YtjdglpngcdcneaaGreat

/- Layer 7: a text of n bytes is read. -/
namespace Go.Proofs.YtjdglpngcdcneaaGreat
open Go.RowKit
set_option linter.unusedVariables false
set_option linter.unusedSimpArgs false
set_option linter.unusedSectionVars false
theorem rls_le (l : List UInt8) (most : Nat) : ∀ (n a : Nat) (acc : List Nat), a ≤ l.length → (rls l most n a acc).2.2 ≤ l.length
  | 0, a, acc, h => h
  | n + 1, a, acc, h => by
    have hf := rd2_facts l a h
    rw [rls]
    split
    · split
      · exact hf.2.2.2.2
      · split
        · exact hf.2.2.2.2
        · exact rls_le l most n _ _ hf.2.2.2.2
    · exact hf.2.2.2.2
theorem rrl_le (l : List UInt8) (a : Nat) (most : Int) (h : a ≤ l.length) : (rrl l a most).2.2 ≤ l.length := by
  have hf := vrd_facts l a h
  unfold rrl
  split
  · exact h
  · split
    · exact rls_le l _ _ _ _ hf.2.2.2
    · exact hf.2.2.2
/-- so many bytes, one behind the other -/
def decP (E : List Ent) (f : Nat → Bool) (N : Nat) : Nat → Nat → List UInt8 → Option (List UInt8)
  | 0, _, acc => some acc
  | m + 1, a, acc => match oneP E f N a with
    | none => none
    | some y => decP E f N m y.2 (acc ++ [UInt8.ofNat y.1])
/-- a text of n bytes that begins with its lengths at a -/
def readP (l : List UInt8) (a n : Nat) : Option (List UInt8) :=
  if lensOK (rrl l a 256).2.1 (rrl l a 256).1 = true ∧ codE (tabL (rrl l a 256).1 256) = 0 ∧ n ≤ 8 * (l.length - (rrl l a 256).2.2) then
    decP (bookL (tabL (rrl l a 256).1 256) (codT (tabL (rrl l a 256).1 256)) 256) (sb (l.drop (rrl l a 256).2.2)) (8 * (l.length - (rrl l a 256).2.2)) n 0 []
  else none
theorem oneG_lt {E : List Ent} (h : ∀ x ∈ E, x.2.2 < 256) (f : Nat → Bool) (N a : Nat) : ∀ (m k : Nat) (y : Nat × Nat), oneG E f N a m k = some y → y.1 < 256
  | 0, k, y, e => by cases e
  | m + 1, k, y, e => by
    rw [oneG] at e
    split at e
    · cases e
    · split at e
      · rename_i x hx
        cases e
        exact h _ (List.mem_of_find?_eq_some hx)
      · exact oneG_lt h f N a m (k + 1) y e
theorem exec_load_row {P : Program} {ρ : Operand → Value} {o : Oper} {w : World} (ty : TypeId) (x : Operand) (ho : o.op = .load ty x)
    (g : Nat) (hx : ρ x = .pointer (some ⟨g, 0, none⟩)) (t : TypeId) (cs : Array Value) (fr : Nat × Nat) (d : TypeDesc) (hg : w.heap[g]? = some (.cells cs t fr))
    (hu : P.underlying ty = some d) (hd : (match d with | .struct _ | .array _ _ => true | _ => false) = true) (hi : (P.info? ty).map (·.size) = some cs.size) :
    (execOp ρ o).run P w = .ok (.value (.agg cs)) w := by
  unfold execOp
  simp only [ho, hx, Instr.loadAt, Instr.sureAddr, Sem.run_bind, Sem.run_pure, Result.andThen_ok, run_loadVar_row w g t ty cs fr d hg hu hd hi]
def strOf : Option (List UInt8) → ByteArray
  | none => ⟨#[]⟩
  | some l => ⟨l.toArray⟩
set_option maxRecDepth 20000 in
set_option maxHeartbeats 4000000 in
theorem read_st {S : Nat → Prop} {W w : World} {b a : Nat} {s : ByteArray} (h : St S W w [rdT b s a]) (hs : s.size ≤ 1000000) (ha : a ≤ s.size) (n : Nat) (hn : n < 18446744073709551616) (R : Option (List UInt8)) (hR : R = readP s.data.toList a n) :
    Calls Tryz.prog 52 #[.pointer (some ⟨b, 0, none⟩), .int .u64 n] w fun e w' => e = .returned (.tuple #[.string (strOf R), .bool R.isSome]) ∧ St S W w' [] := by
  have hle := rrl_le s.data.toList a 256 (by simpa using ha)
  obtain ⟨⟨L, er, a2⟩, hr⟩ : ∃ r, rrl s.data.toList a 256 = r := ⟨_, rfl⟩
  unfold readP at hR
  rw [hr] at hR hle
  simp only at hR hle
  rw [show s.data.toList.length = s.size by simp] at hR hle
  have HLE := Lib.hid (lengths_st h hs ha L er a2 hr)
  have HR := Lib.hid hR
  clear hR hr h
  go_enter Tryz.func52, Tryz.ntmps52
  go_wp2_with fail
  refine HLE.out.mono ?_
  rintro _ w1 ⟨t, ht, rfl, htt, h1⟩
  clear HLE
  have HTT := Lib.hid htt
  clear htt
  have hz := zero8
  have h2 := h1.alloc (tabV .u8 (fun _ => 0)) 74
  have hq := Lib.hid h2.blk
  obtain ⟨w3, hw3, h3⟩ := name_world (P := fun x => St S W x _) (h2.row (tabV .u8 t))
  have HW3 := Lib.hid hw3
  clear h1 h2 hw3
  have hq3 := Lib.hid h3.blk
  have HCo := Lib.hid (fun w => codes_any t (fun i _ => ht i) w)
  go_wp2_with (first
    | (with_reducible refine (show wpList _ _ _ _ _ (World.alloc _ _) from ?_); refine wpList_store_row rfl _ _ _ rfl w1.heap.size (tabV .u8 t) rfl rfl 74 (tabV .u8 (fun _ => 0)) hq.out (size8 _) (tabV_sizes _ _ _) (tabV_one _ _) ?_; rw [HW3.out])
    | (refine wpList_load_row rfl _ _ rfl w1.heap.size rfl 74 (tabV .u8 t) (0, 0) (.array 256 5) hq3.out Tryz.underlying74 rfl (size8 _) ?_))
  refine (HCo.out w3).mono ?_
  rintro _ w4 ⟨rfl, x4⟩
  generalize w1.heap.size = lb at h3 ⊢
  clear hq HW3 hq3 HCo hz
  have h1 := (h3.ext x4).alloc (tabV .u64 (fun _ => 0)) 76
  have hz := zero64
  have hq := Lib.hid h1.blk
  have h2 := h1.row (tabV .u64 (codT t))
  obtain ⟨w5, hw5, h5⟩ := name_world (P := fun x => St S W x _) h2
  have HW5 := Lib.hid hw5
  clear h1 h2 hw5 x4 h3
  have h6 := (h5.pull 1).pull 2
  have HL := Lib.hid (left_any h6.rd hle (by unfold maxLen; omega))
  go_wp2_with (with_reducible refine (show wpList _ _ _ _ _ (World.alloc _ _) from ?_); refine wpList_store_row rfl _ _ _ rfl w4.heap.size (tabV .u64 (codT t)) rfl rfl 76 (tabV .u64 (fun _ => 0)) hq.out (size64 _) (tabV_sizes _ _ _) (tabV_one _ _) ?_; rw [HW5.out])
  refine HL.out.mono ?_
  rintro _ w6 ⟨rfl, x6⟩
  have HT := Lib.hid (take_st (h6.ext x6) (by unfold maxLen; omega) (s.size - a2) (by omega))
  clear hq HW5 h5 h6 HL hz
  go_wp2_with fail
  refine HT.out.mono ?_
  rintro _ w7 ⟨rfl, h7⟩
  clear HT
  generalize w4.heap.size = cb at h7 ⊢
  obtain ⟨rs, hrs⟩ : ∃ rs, rs = s.extract a2 (a2 + (s.size - a2)) := ⟨_, rfl⟩
  have hrz : rs.size = s.size - a2 := by rw [hrs, ByteArray.size_extract]; omega
  have hrl : rs.data.toList = s.data.toList.drop a2 := by
    rw [hrs, ByteArray.data_extract, Array.toList_extract, List.extract_eq_take_drop, List.take_of_length_le (by simp)]
  rw [← hrs]
  rw [← hrl, ← hrz] at HR
  have hrs6 : rs.size ≤ 1000000 := by omega
  clear hrs hrz hrl x6
  have hw8 : IntKind.u64.wrap (rs.size : Int) = (rs.size : Int) := by rw [IntKind.wrap_u64]; omega
  have hw9 : IntKind.u64.wrap (8 * (rs.size : Int)) = 8 * (rs.size : Int) := by rw [IntKind.wrap_u64]; omega
  cases hok : lensOK er L with
  | false =>
    have HN : Hid (R = none) := Lib.hid (by rw [HR.out, hok, if_neg (fun h => by cases h.1)])
    clear HR HTT
    go_wp2_with fail
    go_ret2
    rw [HN.out]
    exact ⟨rfl, h7.drop.drop.drop⟩
  | true =>
    have e := HTT.out hok
    subst e
    by_cases hce : codE (tabL L 256) = 0
    · by_cases hnn : n ≤ 8 * rs.size
      · have HR2 : Hid (R = decP (bookL (tabL L 256) (codT (tabL L 256)) 256) (sb rs.data.toList) (8 * rs.size) n 0 []) := Lib.hid (by rw [HR.out, if_pos ⟨hok, hce, hnn⟩])
        have hnn2 : ¬ (8 * (rs.size : Int) < (n : Int)) := by omega
        have hap := apart_codT hce
        have hC := codT_lt (tabL L 256)
        have HM : Hid (∀ x ∈ bookL (tabL L 256) (codT (tabL L 256)) 256, x.2.2 < 256) := Lib.hid (fun x hx => by
          obtain ⟨j, h1, _, rfl⟩ := (bookL_mem _ _ _ _).1 hx
          exact h1)
        obtain ⟨E, hE⟩ : ∃ E, E = bookL (tabL L 256) (codT (tabL L 256)) 256 := ⟨_, rfl⟩
        rw [← hE] at HR2 HM
        have HBk := Lib.hid (fun (w : World) (M : List Thing) (h : St S W w M) => book_st h (tabL L 256) (codT (tabL L 256)) ht hC hap E hE)
        clear HR HTT hok hap hC hE
        rw [hce]
        clear hce
        generalize codT (tabL L 256) = C at *
        generalize tabL L 256 = t at *
        go_wp2_with fail
        have h8 := h7.ext ((Mut.refl noB w7).drew)
        have hS : (fun w' : World => w'.heap[lb]? = some (.cells (tabV .u8 t) 74 (0, 0)) ∧ w'.heap[cb]? = some (.cells (tabV .u64 C) 76 (0, 0))) w7.drew := ⟨(h8.pull 1).blk, (h8.pull 2).blk⟩
        refine wp_region_held (S := fun w' : World => w'.heap[lb]? = some (.cells (tabV .u8 t) 74 (0, 0)) ∧ w'.heap[cb]? = some (.cells (tabV .u64 C) 76 (0, 0))) (by kernel_rfl) ?_
        change wpAnyH _ _ _ _ _ _ _ _ (World.drew _)
        refine wpAnyH_take (i := 0) (v := ?_) rfl (by kernel_rfl) (by kernel_rfl) (by kernel_rfl) (fun _ _ _ h => h) (Or.inl ⟨by rfl, ?_⟩) hS ?_
        rotate_left
        · (intro w' hS'; go_simp; try with_reducible rfl)
        refine wpAnyH_take (i := 2) (v := .agg (tabV .u8 t)) rfl (by kernel_rfl) (by kernel_rfl) (by kernel_rfl) (fun _ _ _ h => h) (Or.inl ⟨by rfl, fun w' hS' => exec_load_row 74 _ rfl lb rfl 74 _ (0, 0) (.array 256 5) hS'.1 Tryz.underlying74 rfl (size8 _)⟩) hS ?_
        refine wpAnyH_take (i := 3) (v := .agg (tabV .u64 C)) rfl (by kernel_rfl) (by kernel_rfl) (by kernel_rfl) (fun _ _ _ h => h) (Or.inl ⟨by rfl, fun w' hS' => exec_load_row 76 _ rfl cb rfl 76 _ (0, 0) (.array 256 34) hS'.2 Tryz.underlying76 rfl (size64 _)⟩) hS ?_
        refine wpAnyH_ready (rs := [1]) (by kernel_rfl) (by simp) ?_
        refine AllReadyH.cons rfl (fun K hK => ?_) AllReadyH.nil
        go_simp
        refine (bnew_st h8 rs).mono ?_
        rintro _ w8 ⟨rfl, h9, _⟩
        generalize w7.drew.heap.size = bb at h9 ⊢
        replace hS : (fun w' : World => w'.heap[lb]? = some (.cells (tabV .u8 t) 74 (0, 0)) ∧ w'.heap[cb]? = some (.cells (tabV .u64 C) 76 (0, 0))) w8 := ⟨(h9.pull 2).blk, (h9.pull 3).blk⟩
        refine hK.out _ _ hS (fun _ => ?_)
        clear hK K
        refine wpAnyH_ready (rs := [4]) (by kernel_rfl) (by simp) ?_
        refine AllReadyH.cons rfl (fun K hK => ?_) AllReadyH.nil
        go_simp
        refine (HBk.out _ _ h9).mono ?_
        rintro _ w9 ⟨mb, rfl, h10⟩
        replace hS : (fun w' : World => w'.heap[lb]? = some (.cells (tabV .u8 t) 74 (0, 0)) ∧ w'.heap[cb]? = some (.cells (tabV .u64 C) 76 (0, 0))) w9 := ⟨(h10.pull 3).blk, (h10.pull 4).blk⟩
        refine hK.out _ _ hS (fun _ => ?_)
        clear hK K
        refine wpAnyH_take (i := 5) (v := ?_) rfl (by kernel_rfl) (by kernel_rfl) (by kernel_rfl) (fun _ _ _ h => h) (Or.inl ⟨by rfl, ?_⟩) hS ?_
        rotate_left
        · (intro w' hS'; go_simp; try with_reducible rfl)
        refine wpAnyH_take (i := 6) (v := ?_) rfl (by kernel_rfl) (by kernel_rfl) (by kernel_rfl) (fun _ _ _ h => h) (Or.inl ⟨by rfl, ?_⟩) hS ?_
        rotate_left
        · (intro w' hS'; go_simp; try with_reducible rfl)
        refine wpAnyH_done (by kernel_rfl) ?_ _
        have h11 : St S W w9 [mapT mb E, brT bb rs 0] := (((h10.pull 4).drop.pull 3).drop.pull 2).drop
        clear hS h8 h9 h10 HBk h7
        have h12 := (h11.swap).newWr
        clear h11
        go_wp2_with fail
        generalize w9.alloc (.cells #[.slice none 0 0] 45) = w10 at h12 ⊢
        generalize w9.heap.size = ob at h12 ⊢
        go_loopw [54] (fun v54 wr => ∃ (i a' : Nat) (acc : List UInt8), v54 = .int .u64 i ∧ i ≤ n ∧ a' ≤ 8 * rs.size ∧ Hid (acc.length = i) ∧ Hid (R = decP E (sb rs.data.toList) (8 * rs.size) (n - i) a' acc) ∧ St S W wr [wrT ob acc, brT bb rs a', mapT mb E]) (fun v54 _ => n - (intOf v54).toNat)
        case atStart => exact ⟨0, 0, [], rfl, by omega, by omega, Lib.hid rfl, HR2, h12⟩
        case round =>
          clear h12 HR2
          obtain ⟨i, a', acc, rfl, hi, ha', HLa, HR, h⟩ := hrel
          by_cases hlt : i < n
          · have hl1 : (i : Int) < (n : Int) := by omega
            obtain ⟨y, hy⟩ : ∃ y, oneP E (sb rs.data.toList) (8 * rs.size) a' = y := ⟨_, rfl⟩
            have HO := Lib.hid (one_st ((h.pull 2).pull 2) ha' (by omega) y hy.symm)
            have hR := HR.out
            rw [show n - i = (n - (i + 1)) + 1 by omega, decP, hy] at hR
            cases y with
            | none =>
              have HN : Hid (R = none) := Lib.hid hR
              clear hR HR hy
              go_wp2_with fail
              refine HO.out.mono ?_
              rintro _ w11 ⟨x, a3, ha3, rfl, _, h13⟩
              go_wp2_with fail
              go_ret2
              rw [HN.out]
              exact ⟨rfl, h13.drop.drop.drop⟩
            | some y =>
              have hyx := oneG_lt HM.out _ _ _ 56 0 y hy
              have HN : Hid (R = decP E (sb rs.data.toList) (8 * rs.size) (n - (i + 1)) y.2 (acc ++ [UInt8.ofNat y.1])) := Lib.hid hR
              clear hR HR hy
              go_wp2_with fail
              refine HO.out.mono ?_
              rintro _ w11 ⟨x, a3, ha3, rfl, hxy, h13⟩
              obtain ⟨e1, e2⟩ := hxy y rfl
              rw [← e1, ← e2] at HN
              rw [← e1] at hyx
              clear hxy e1 e2 HO
              have h14 := ((h13.pull 2).alloc #[.int .u8 (x : Nat)] 5)
              have hcell := cell_of_heap h14.blk 0
              have hla := HLa.out
              have HP : Hid (Calls Tryz.prog 86 #[.pointer (some ⟨ob, 0, none⟩), .slice (some ⟨w11.heap.size, 0, none⟩) 1 1] (w11.alloc (.cells #[.int .u8 (x : Nat)] 5)) fun e w' => e = .returned (.tuple #[]) ∧ St S W w' (wrT ob (acc ++ [UInt8.ofNat x]) :: [blkT w11.heap.size #[.int .u8 (x : Nat)] 5, brT bb rs a3, mapT mb E])) := Lib.hid (put_st h14.swap [UInt8.ofNat x] ⟨w11.heap.size, 0, none⟩ 1 (fun j hj => by
                have e : j = 0 := by rw [List.length_singleton] at hj; omega
                subst e
                rw [Go.WideShapes.add_plain, hcell]
                show some (Value.int .u8 (x : Nat)) = some (bv (UInt8.ofNat x))
                rw [bv_ofNat]
                show some (Value.int .u8 _) = some (Value.int .u8 _)
                rw [Nat.mod_eq_of_lt hyx]) (by rw [List.length_singleton]; omega))
              have HLa2 : Hid ((acc ++ [UInt8.ofNat x]).length = i + 1) := Lib.hid (by rw [List.length_append, hla]; rfl)
              clear hcell hla h14 h13 hyx
              go_wp2_with fail
              refine HP.out.mono ?_
              rintro _ w12 ⟨rfl, h15⟩
              have hi64 : IntKind.u64.wrap ((i : Int) + 1) = (i : Int) + 1 := by rw [IntKind.wrap_u64]; omega
              go_wp2_with fail
              exact ⟨⟨i + 1, a3, _, by go_num, by omega, ha3, HLa2, HN, h15.swap.drop⟩, by simp only [intOf]; omega⟩
          · obtain rfl : i = n := by omega
            have hl1 : ¬ ((i : Int) < (i : Int)) := by omega
            have HN : Hid (R = some acc) := Lib.hid (by rw [HR.out, Nat.sub_self]; rfl)
            have HS := Lib.hid (str_st h)
            clear HR
            go_wp2_with fail
            refine HS.out.mono ?_
            rintro _ _ ⟨rfl, rfl⟩
            go_wp2_with fail
            go_ret2
            rw [HN.out]
            exact ⟨rfl, h.drop.drop.drop⟩
      · have HN : Hid (R = none) := Lib.hid (by rw [HR.out, if_neg (fun h => hnn h.2.2)])
        have hnn2 : (8 * (rs.size : Int) < (n : Int)) := by omega
        clear HR HTT ht
        rw [hce]
        clear hce
        generalize codT (tabL L 256) = C at *
        generalize tabL L 256 = t at *
        go_wp2_with fail
        go_ret2
        rw [HN.out]
        exact ⟨rfl, h7.drop.drop.drop⟩
    · have HN : Hid (R = none) := Lib.hid (by rw [HR.out, if_neg (fun h => hce h.2.1)])
      have hce2 : ¬ (codE (tabL L 256) : Int) = 0 := by omega
      clear HR HTT ht
      generalize codE (tabL L 256) = ce at *
      generalize codT (tabL L 256) = C at *
      generalize tabL L 256 = t at *
      go_wp2_with fail
      go_ret2
      rw [HN.out]
      exact ⟨rfl, h7.drop.drop.drop⟩
end Go.Proofs.YtjdglpngcdcneaaGreat
