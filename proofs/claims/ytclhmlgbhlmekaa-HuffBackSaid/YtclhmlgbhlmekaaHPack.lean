/- Layer 7: huff.Pack. -/
import Derived.Test.YtclhmlgbhlmekaaHLength
import Derived.Test.YtclhmlgbhlmekaaHCount
import Derived.Test.YtclhmlgbhlmekaaHb
import Derived.Test.YtclhmlgbhlmekaaHd
namespace Go.Proofs.Ytclhmlgbhlmekaa
open Go.RowKit
set_option linter.unusedVariables false
set_option linter.unusedSimpArgs false
theorem rounds_ok : ∀ (k : Nat) (s : HS), HOK s → HOK (roundsS k s)
  | 0, s, h => h
  | k + 1, s, h => by
    show HOK (if s.l.length ≤ 1 then s else roundsS k (roundS s))
    split
    · exact h
    · exact rounds_ok k _ (round_ok s h (by omega))
theorem lenS_lt (f : Nat → Nat) (hf : ∀ i, f i < 18446744073709551616) (n : Nat) (hn : n ≤ 256) : ∀ i, lenS (leafS f n) i < 256 := fun i => by
  unfold lenS
  split
  · unfold upd; split
    · omega
    · show 0 < 256; omega
  · exact (rounds_ok _ _ (start_ok f hf n hn)).tab i
theorem lenT_lt (f : Nat → Nat) (hf : ∀ i, f i < 18446744073709551616) : ∀ i, lenT f i < 256 := lenS_lt f hf 256 (Nat.le_refl _)
theorem tabV_sizes (k : IntKind) (t u : Nat → Nat) : (tabV k t).size = (tabV k u).size := by rw [tabV_size, tabV_size]
def SmallC (s : Nat × (Nat → Nat)) : Prop := s.1 < 18446744073709551616 ∧ ∀ i, s.2 i < 18446744073709551616
theorem cIn_small (t : Nat → Nat) (k : Nat) (s : Nat × (Nat → Nat)) (h : SmallC s) : ∀ i, SmallC (cIn t k i s)
  | 0 => h
  | i + 1 => by
    have ih := cIn_small t k s h i
    unfold cIn
    split
    · refine ⟨Nat.mod_lt _ (by omega), fun j => ?_⟩
      show upd (cIn t k i s).2 i (cIn t k i s).1 j < _
      unfold upd
      split
      · exact ih.1
      · exact ih.2 j
    · exact ih
theorem cOut_small (t : Nat → Nat) : ∀ k, SmallC (cOut t k)
  | 0 => ⟨(show (0 : Nat) < 18446744073709551616 by decide), fun i => (show (0 : Nat) < 18446744073709551616 by decide)⟩
  | k + 1 => by
    rw [cOut]
    generalize 256 = n
    exact cIn_small t k ((cOut t k).1 * 2 % 18446744073709551616, (cOut t k).2) ⟨Nat.mod_lt _ (by decide), (cOut_small t k).2⟩ n
theorem codT_lt (t : Nat → Nat) : ∀ i, codT t i < 18446744073709551616 := fun i => by
  unfold codT
  split
  · exact (cOut_small t 56).2 i
  · show 0 < 18446744073709551616; omega
/-- the lengths as a list -/
def lensL (t : Nat → Nat) : List Nat := (List.range 256).map t
def fillL (t : Nat → Nat) (i : Nat) : List Nat := (List.range i).map t ++ List.replicate (256 - i) 0
theorem fillL_len (t : Nat → Nat) (i : Nat) (h : i ≤ 256) : (fillL t i).length = 256 := by simp [fillL]; omega
theorem fillL_set (t : Nat → Nat) (i : Nat) (h : i < 256) : (fillL t i).set i (t i) = fillL t (i + 1) := by
  unfold fillL
  obtain ⟨k, hk⟩ : ∃ k, 256 - i = k + 1 := ⟨255 - i, by omega⟩
  rw [hk, show 256 - (i + 1) = k by omega, List.range_succ, List.map_append, List.replicate_succ, List.set_append_right _ _ (by simp)]
  simp
theorem fillL_all (t : Nat → Nat) : fillL t 256 = lensL t := by unfold fillL lensL; rw [Nat.sub_self]; simp
theorem fillL_zero (t : Nat → Nat) : fillL t 0 = List.replicate 256 0 := by unfold fillL; rw [Nat.sub_zero]; rfl
/-- the codes on end -/
def bitsP (L C : Nat → Nat) (l : List UInt8) : List Bool := l.flatMap fun x => bitsOf (C x.toNat) (L x.toNat)
theorem lensL_lt {t : Nat → Nat} (h : ∀ i, t i < 256) : AllLt (lensL t) := fun i hi => by
  have hm : (lensL t).getD i 0 ∈ lensL t := by rw [List.getD_eq_getElem?_getD, List.getElem?_eq_getElem hi]; exact List.getElem_mem _
  simp only [lensL, List.mem_map] at hm
  obtain ⟨j, _, e⟩ := hm
  show (lensL t).getD i 0 < _
  rw [show (lensL t).getD i 0 = t j from e.symm]
  have := h j; omega
theorem rbsH_len (p : List Rn) (ha : AllR p) : (rbs p).length ≤ 20 * p.length := by
  have : ∀ k, k ≤ p.length → (rbs (p.take k)).length ≤ 20 * k := by
    intro k
    induction k with
    | zero => intro _; simp [rbs]
    | succ k ih =>
      intro hk
      have h1 := ha k (by omega)
      have h2 := vb_len10 _ h1.1
      have h3 := vb_len10 ((p.getD k (0, 0)).2 - 1) (by omega)
      have := ih (by omega)
      rw [rbs_take p k (by omega), List.length_append, List.length_append]; omega
  have := this p.length (Nat.le_refl _)
  rwa [List.take_length] at this
theorem rbl_len (p : List Rn) (l : List Nat) (hp : pk l = p) (ha : AllLt l) (hl : l.length ≤ 1000000) : (rbl p).length ≤ 20000010 := by
  have h1 := len_le_expand (pk l) (ok_pk l)
  rw [expand_pk] at h1
  have h2 := rbsH_len (pk l) (allR_pk l ha hl)
  have h3 := vb_len10 (pk l).length (by omega)
  rw [← hp, rbl, List.length_append]; omega
theorem bitsP_len {L C : Nat → Nat} (h : ∀ i, L i ≤ 64) : ∀ l : List UInt8, (bitsP L C l).length ≤ 64 * l.length
  | [] => Nat.le_refl _
  | x :: l => by
    have := bitsP_len (C := C) h l
    have := h x.toNat
    unfold bitsP at *
    rw [List.flatMap_cons, List.length_append, bitsOf_len, List.length_cons]; omega
def packP (l : List UInt8) : List UInt8 := vb l.length ++ rbl (pk (lensL (lenT (cntF l)))) ++ pack (bitsP (lenT (cntF l)) (codT (lenT (cntF l))) l)
set_option maxRecDepth 20000 in
set_option maxHeartbeats 1000000 in
theorem pack_any (s : ByteArray) (hs : s.size ≤ 1000000) (hL64 : ∀ i, lenT (cntF s.data.toList) i ≤ 64) (w : World) :
    Calls Try.prog 19 #[.string s] w fun e w' => e = .returned (.string ⟨(packP s.data.toList).toArray⟩) ∧ Ext w w' := by
  have hf : ∀ i, cntF s.data.toList i < 18446744073709551616 := fun i => by
    have := cntF_le s.data.toList i
    have e : s.data.toList.length = s.size := by simp
    omega
  have HCt := Lib.hid (count_any s (by omega) w)
  have HLn := Lib.hid (fun w => lengths_any (cntF s.data.toList) hf w)
  have HP : Hid (packP s.data.toList = vb s.data.toList.length ++ rbl (pk (lensL (lenT (cntF s.data.toList)))) ++ pack (bitsP (lenT (cntF s.data.toList)) (codT (lenT (cntF s.data.toList))) s.data.toList)) := Lib.hid rfl
  have hL8 := lenT_lt _ hf
  generalize packP s.data.toList = R at HP ⊢
  generalize lenT (cntF s.data.toList) = L at HLn HP hL64 hL8
  generalize cntF s.data.toList = f at HCt HLn
  have HCo := Lib.hid (fun w => codes_any L (fun i _ => hL8 i) w)
  have hC := codT_lt L
  generalize codT L = C at HP HCo hC
  generalize codE L = E at HCo
  clear hf
  go_enter Try.func19, Try.ntmps19
  go_wp2_with fail
  refine HCt.out.mono ?_
  rintro _ w1 ⟨rfl, x1⟩
  go_wp2_with fail
  refine (HLn.out w1).mono ?_
  rintro _ w2 ⟨rfl, x2⟩
  clear HCt HLn
  have x3 := x1.trans x2
  have h1 := ((St.start noB w).ext x3).alloc (tabV .u8 (fun _ => 0)) 27
  have hz := zero8
  have hq := Lib.hid h1.blk
  have h2 := h1.row (tabV .u8 L)
  obtain ⟨w3, hw3, h3⟩ := name_world (P := fun x => St noB w x _) h2
  have HW3 := Lib.hid hw3
  clear h1 h2 hw3 x1 x2 x3
  have hq3 := Lib.hid h3.blk
  go_wp2_with (first
    | (with_reducible refine (show wpList _ _ _ _ _ (World.alloc _ _) from ?_); refine wpList_store_row rfl _ _ _ rfl w2.heap.size (tabV .u8 L) rfl rfl 27 (tabV .u8 (fun _ => 0)) hq.out (size8 _) (tabV_sizes _ _ _) (tabV_one _ _) ?_; rw [HW3.out])
    | (refine wpList_load_row rfl _ _ rfl w2.heap.size rfl 27 (tabV .u8 L) (0, 0) (.array 256 5) hq3.out Try.underlying27 rfl (size8 _) ?_))
  refine (HCo.out w3).mono ?_
  rintro _ w4 ⟨rfl, x4⟩
  generalize w2.heap.size = lb at h3 ⊢
  clear hq HW3 hq3 HCo hz
  have h1 := (h3.ext x4).alloc (tabV .u64 (fun _ => 0)) 25
  have hz := zero64
  have hq := Lib.hid h1.blk
  have h2 := h1.row (tabV .u64 C)
  obtain ⟨w5, hw5, h5⟩ := name_world (P := fun x => St noB w x _) h2
  have HW5 := Lib.hid hw5
  have hq3 := Lib.hid (fun o => (((St.ext h5 ((Mut.refl noB w5).alloc o))).pull 1).blk)
  clear h1 h2 hw5 x4 h3
  obtain ⟨i0, hi0, hz0, hz1, hz2⟩ := info_parts u64_info
  obtain ⟨Z, hZ⟩ : ∃ Z, (numsV (fillL L 0)).toArray = Z := ⟨_, rfl⟩
  have hmk : ∀ w : World, (Instr.makeSlice 22 (.int .i64 256) (.int .i64 256)).run Try.prog w = .ok (.slice (some ⟨w.heap.size, 0, none⟩) 256 256) (w.alloc (.cells Z 24)) := by
    intro w
    rw [run_make w 22 24 i0 _ Try.underlying22 hi0 hz0 .i64 .i64 256 256 (by omega) (by omega) (by rw [hz2]; omega) (by omega), hz1, ← hZ, fillL_zero, ← zeros]
    rfl
  have HZ := Lib.hid hZ
  clear hZ hz0 hz1 hz2 hi0
  go_wp2_with (first
    | (with_reducible refine (show wpList _ _ _ _ _ (World.alloc _ _) from ?_); refine wpList_store_row rfl _ _ _ rfl w4.heap.size (tabV .u64 C) rfl rfl 25 (tabV .u64 (fun _ => 0)) hq.out (size64 _) (tabV_sizes _ _ _) (tabV_one _ _) ?_; rw [HW5.out])
    | (with_reducible refine (show wpList _ _ _ _ _ (World.alloc _ _) from ?_); refine wpList_load_row rfl _ _ rfl lb rfl 27 (tabV .u8 L) (0, 0) (.array 256 5) (hq3.out _) Try.underlying27 rfl (size8 _) ?_))
  have hZ := HZ.out
  have h6 := h5.made 24 1 256 256 Z (by omega) (by unfold maxLen; omega) (by rw [← hZ, List.size_toArray, numsV_len, fillL_len _ _ (by omega)])
  have e6 : Z.toList.take (256 * 1) = numsV (fillL L 0) := by
    rw [← hZ]
    exact List.take_of_length_le (by rw [numsV_len, fillL_len _ _ (by omega)]; omega)
  rw [e6] at h6
  generalize w5.alloc (.cells Z 24) = w6 at h6 ⊢
  generalize w5.heap.size = nb at h6 ⊢
  generalize w4.heap.size = cb at h6 ⊢
  obtain ⟨T8, hT8⟩ : ∃ T8, T8 = tabV .u8 L := ⟨_, rfl⟩
  have hT0 : ∀ i, i < 256 → T8[i]? = some (.int .u8 (L i)) := fun i hi => by rw [hT8]; exact tabV_get _ _ i hi
  rw [← hT8]
  clear hmk hT8 hZ e6 h5 HW5 hq hq3 hz HZ
  go_loopw [21] (fun v21 wr => ∃ i : Nat, v21 = .int .i64 i ∧ i ≤ 256 ∧ St noB w wr [ownT 24 1 (.slice (some ⟨nb, 0, none⟩) 256 256) 256 (numsV (fillL L i)), blkT cb (tabV .u64 C) 25, blkT lb (tabV .u8 L) 27]) (fun v21 _ => 256 - (intOf v21).toNat)
  case atStart => exact ⟨0, rfl, by omega, h6⟩
  case round =>
    clear h6
    obtain ⟨i, rfl, hi, h⟩ := hrel
    by_cases hlt : i < 256
    · have hl1 : (i : Int) < 256 := by omega
      have hT1 := fun w => index8 T8 i _ hlt (hT0 i hlt) w
      have hLi := hL8 i
      have c0 := Own.cell h.own i (by omega)
      have f0 := Own.free h.own i
      rw [numsV_get _ _ (by rw [fillL_len _ _ (by omega)]; exact hlt)] at c0
      have h7 := h.stored i (.int .u64 (L i : Nat))
      rw [numsV_set, fillL_set L i hlt] at h7
      have H7 := Lib.hid h7
      clear h h7
      generalize L i = x at *
      generalize (fillL L i).getD i 0 = y at *
      go_wp2_with fail
      exact ⟨⟨i + 1, by go_num, by omega, H7.out⟩, by simp only [intOf]; omega⟩
    · obtain rfl : i = 256 := by omega
      have hl1 : ¬ ((256 : Nat) : Int) < 256 := by omega
      rw [fillL_all] at h
      have h2 := h.newBw
      clear h hT0 hi hlt
      go_wp2_with fail
      generalize wr.alloc (.cells #[.slice none 0 0, .int .i64 0] 64) = w7 at h2 ⊢
      generalize wr.heap.size = bb at h2 ⊢
      go_loopw [33] (fun v33 wr => ∃ i : Nat, v33 = .int .i64 i ∧ i ≤ s.size ∧ St noB w wr (bwT bb (bitsP L C (s.data.toList.take i)) :: [ownT 24 1 (.slice (some ⟨nb, 0, none⟩) 256 256) 256 (numsV (lensL L)), blkT cb (tabV .u64 C) 25, blkT lb (tabV .u8 L) 27])) (fun v33 _ => s.size - (intOf v33).toNat)
      case atStart => exact ⟨0, rfl, by omega, h2⟩
      case round =>
        clear h2
        obtain ⟨i, rfl, hi, h⟩ := hrel
        by_cases hlt : i < s.size
        · have hx8 := s[i].toNat_lt
          have ht : s.data.toList.take (i + 1) = s.data.toList.take i ++ [s[i]] := by
            rw [List.take_succ_eq_append_getElem (by simpa using hlt)]; rfl
          have hb1 : bitsP L C (s.data.toList.take (i + 1)) = bitsP L C (s.data.toList.take i) ++ bitsOf (C s[i].toNat) (L s[i].toNat) := by
            rw [ht]; unfold bitsP; rw [List.flatMap_append, List.flatMap_singleton]
          have hbl := bitsP_len (C := C) hL64 (s.data.toList.take i)
          rw [List.length_take] at hbl
          have hd := h.ext ((Mut.refl noB wr).drew)
          have kc := cell_of_heap (hd.pull 2).blk s[i].toNat
          have kl := cell_of_heap (hd.pull 3).blk s[i].toNat
          rw [tabV_get _ _ _ (by omega)] at kc kl
          have hl64 := hL64 s[i].toNat
          have HB := Lib.hid (bput_st hd (C s[i].toNat) (L s[i].toNat) (hC s[i].toNat) hl64 (by omega))
          rw [← hb1] at HB
          clear ht hb1 hbl h hd
          obtain ⟨x, hx⟩ : ∃ x, s[i].toNat = x := ⟨_, rfl⟩
          rw [hx] at kc kl HB hx8 hl64
          generalize hcx : C x = cx at kc HB
          generalize hlx : L x = lx at kl HB hl64
          clear hcx hlx
          have hlz : (i : Int) < (s.size : Int) := by omega
          have hx9 : (x : Int) < 256 := by omega
          have hw64 : IntKind.i64.wrap (lx : Int) = (lx : Int) := by rw [IntKind.wrap_i64]; omega
          go_wp2_with fail
          refine wp_region_any (by kernel_rfl) ?_
          change wpAny _ _ _ _ _ _ _ (World.drew _)
          refine wpAny_take (i := 0) (v := ?_) rfl (by kernel_rfl) (by kernel_rfl) (by kernel_rfl) (fun _ _ _ h => h) (Or.inl ⟨by rfl, ?_⟩) ?_
          rotate_left
          · (intro w; go_simp; try with_reducible rfl)
          refine wpAny_take (i := 1) (v := ?_) rfl (by kernel_rfl) (by kernel_rfl) (by kernel_rfl) (fun _ _ _ h => h) (Or.inl ⟨by rfl, ?_⟩) ?_
          rotate_left
          · (intro w; go_simp; try with_reducible rfl)
          refine wpAny_take (i := 2) (v := ?_) rfl (by kernel_rfl) (by kernel_rfl) (by kernel_rfl) (fun _ _ _ h => h) (Or.inl ⟨by rfl, ?_⟩) ?_
          rotate_left
          · (intro w; go_simp; try with_reducible rfl)
          refine wpAny_take (i := 3) (v := ?_) rfl (by kernel_rfl) (by kernel_rfl) (by kernel_rfl) (fun _ _ _ h => h) (Or.inl ⟨by rfl, ?_⟩) ?_
          rotate_left
          · (intro w; go_simp; try with_reducible rfl)
          refine wpAny_take (i := 5) (v := ?_) rfl (by kernel_rfl) (by kernel_rfl) (by kernel_rfl) (fun _ _ _ h => h) (Or.inl ⟨by rfl, ?_⟩) ?_
          rotate_left
          · (intro w; go_simp; try with_reducible rfl)
          refine wpAny_take (i := 6) (v := ?_) rfl (by kernel_rfl) (by kernel_rfl) (by kernel_rfl) (fun _ _ _ h => h) (Or.inl ⟨by rfl, ?_⟩) ?_
          rotate_left
          · (intro w; go_simp; try with_reducible rfl)
          refine wpAny_take (i := 7) (v := ?_) rfl (by kernel_rfl) (by kernel_rfl) (by kernel_rfl) (fun _ _ _ h => h) (Or.inl ⟨by rfl, ?_⟩) ?_
          rotate_left
          · (intro w; go_simp; try with_reducible rfl)
          refine wpAny_take (i := 8) (v := ?_) rfl (by kernel_rfl) (by kernel_rfl) (by kernel_rfl) (fun _ _ _ h => h) (Or.inl ⟨by rfl, ?_⟩) ?_
          rotate_left
          · (intro w; go_simp; try with_reducible rfl)
          refine wpAny_ready (rs := [4, 9]) (by kernel_rfl) (by simp) ?_
          refine AllReady.cons rfl (fun K hK => ?_) ?_
          · go_simp
            refine hK _ _ ?_
            clear hK K
            refine wpAny_ready (rs := [9]) (by kernel_rfl) (by simp) ?_
            refine AllReady.cons rfl (fun K hK => ?_) AllReady.nil
            go_simp
            refine hK _ _ ?_
            clear hK K
            refine wpAny_take (i := 10) (v := ?_) rfl (by kernel_rfl) (by kernel_rfl) (by kernel_rfl) (fun _ _ _ h => h) (Or.inl ⟨by rfl, ?_⟩) ?_
            rotate_left
            · (intro w; go_simp; try with_reducible rfl)
            refine wpAny_ready (rs := [11]) (by kernel_rfl) (by simp) ?_
            refine AllReady.cons rfl (fun K hK => ?_) AllReady.nil
            go_simp
            refine HB.out.mono ?_
            rintro _ w8 ⟨rfl, h8⟩
            refine hK _ _ ?_
            clear hK K
            refine wpAny_done (by kernel_rfl) ?_ _
            go_wp2_with fail
            exact ⟨⟨i + 1, by go_num, by omega, h8⟩, by simp only [intOf]; omega⟩
          · refine AllReady.cons rfl (fun K hK => ?_) AllReady.nil
            go_simp
            refine hK _ _ ?_
            clear hK K
            refine wpAny_take (i := 10) (v := ?_) rfl (by kernel_rfl) (by kernel_rfl) (by kernel_rfl) (fun _ _ _ h => h) (Or.inl ⟨by rfl, ?_⟩) ?_
            rotate_left
            · (intro w; go_simp; try with_reducible rfl)
            refine wpAny_ready (rs := [4]) (by kernel_rfl) (by simp) ?_
            refine AllReady.cons rfl (fun K hK => ?_) AllReady.nil
            go_simp
            refine hK _ _ ?_
            clear hK K
            refine wpAny_ready (rs := [11]) (by kernel_rfl) (by simp) ?_
            refine AllReady.cons rfl (fun K hK => ?_) AllReady.nil
            go_simp
            refine HB.out.mono ?_
            rintro _ w8 ⟨rfl, h8⟩
            refine hK _ _ ?_
            clear hK K
            refine wpAny_done (by kernel_rfl) ?_ _
            go_wp2_with fail
            exact ⟨⟨i + 1, by go_num, by omega, h8⟩, by simp only [intOf]; omega⟩
        · obtain rfl : i = s.size := by omega
          rw [List.take_of_length_le (by simp)] at h
          have hlz : ¬ (s.size : Int) < (s.size : Int) := by omega
          have hwz : IntKind.u64.wrap (s.size : Int) = (s.size : Int) := by rw [IntKind.wrap_u64]; omega
          have HV := Lib.hid (vprint_any s.size (by omega) wr)
          have hnr := Own.nrow (h.pull 1).own (by simp [lensL])
          have hal := lensL_lt hL8
          have hbq := rbl_len (pk (lensL L)) (lensL L) rfl hal (by simp [lensL])
          have hbp := pack_len (bitsP L C s.data.toList)
          have hbl := bitsP_len (C := C) hL64 s.data.toList
          have hv10 := vb_len10 s.size (by omega)
          have esz : s.data.toList.length = s.size := by simp
          rw [esz] at hbl
          have HRn := Lib.hid (fun w' (x : Ext wr w') => runprint_any (some ⟨nb, 0, none⟩) 256 256 (lensL L) w' (by simp [lensL]) (by omega) (hnr.ext x) hal)
          have HST := Lib.hid (fun w' (x : Ext wr w') => bstr_st (h.ext x))
          have HX := Lib.hid h.ends
          clear hnr h hi hlt
          rw [esz] at HP
          clear esz
          generalize bitsP L C s.data.toList = B at HST HP hbp hbl
          generalize pk (lensL L) = q at HRn HP hbq
          rw [show rbl q = rbl q from rfl] at HRn
          obtain ⟨s1, hs1⟩ : ∃ s1 : ByteArray, s1 = ⟨(vb s.size).toArray⟩ := ⟨_, rfl⟩
          obtain ⟨s2, hs2⟩ : ∃ s2 : ByteArray, s2 = ⟨(rbl q).toArray⟩ := ⟨_, rfl⟩
          obtain ⟨s3, hs3⟩ : ∃ s3 : ByteArray, s3 = ⟨(pack B).toArray⟩ := ⟨_, rfl⟩
          have z1 : s1.size = (vb s.size).length := by rw [hs1]; rfl
          have z2 : s2.size = (rbl q).length := by rw [hs2]; rfl
          have z3 : s3.size = (pack B).length := by rw [hs3]; rfl
          have z4 : (s1 ++ s2).size = s1.size + s2.size := ByteArray.size_append
          have HF : Hid ((s1 ++ s2) ++ s3 = ⟨R.toArray⟩) := Lib.hid (by rw [HP.out, hs1, hs2, hs3, bytes_append, bytes_append])
          rw [← hs1] at HV
          rw [← hs2] at HRn
          rw [← hs3] at HST
          rw [← z1] at hv10
          rw [← z2] at hbq
          rw [← z3] at hbp
          have z5 : s1.size + s2.size ≤ 9223372036854775807 := by omega
          have z6 : (s1 ++ s2).size + s3.size ≤ 9223372036854775807 := by omega
          clear hs1 hs2 hs3 z1 z2 z3 HP
          go_wp2_with fail
          refine HV.out.mono ?_
          rintro _ w8 ⟨rfl, x8⟩
          go_wp2_with fail
          refine (HRn.out w8 x8).mono ?_
          rintro _ w9 ⟨rfl, x9⟩
          go_wp2_with fail
          refine (HST.out w9 (x8.trans x9)).mono ?_
          rintro _ _ ⟨rfl, rfl⟩
          go_wp2_with fail
          rw [HF.out]
          go_ret
          exact ⟨rfl, (HX.out.trans x8).trans x9⟩
end Go.Proofs.Ytclhmlgbhlmekaa
