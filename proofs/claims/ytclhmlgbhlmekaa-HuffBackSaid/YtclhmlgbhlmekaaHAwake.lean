/- Layer 7: awake. -/
import Derived.Test.YtclhmlgbhlmekaaHAwk
namespace Go.Proofs.Ytclhmlgbhlmekaa
open Go.RowKit
set_option linter.unusedVariables false
set_option linter.unusedSimpArgs false
theorem packP_len (l : List UInt8) (hl : l.length < 134217728) : (packP l).length ≤ 5148 + 8 * l.length := by
  have h56 := lenT_text hl
  unfold packP
  rw [List.length_append, List.length_append, pack_len]
  have h1 := vb_len10 l.length (by omega)
  generalize lenT (cntF l) = t at *
  have h8 : ∀ i, t i < 256 := fun i => by have := h56 i; omega
  have ha := lensL_lt h8
  have hll : (lensL t).length = 256 := by simp [lensL]
  generalize lensL t = ll at *
  have h2 := rbsH_len (pk ll) (allR_pk _ ha (by omega))
  have h3 : (pk ll).length ≤ ll.length := by
    have := len_le_expand (pk ll) (ok_pk ll)
    rwa [expand_pk] at this
  have h4 := vb_len10 (pk ll).length (by omega)
  have h5 := bitsP_len (L := t) (C := codT t) (fun i => by have := h56 i; omega) l
  unfold rbl
  rw [List.length_append]
  omega
theorem upd_lt {t : Nat → Nat} {i v : Nat} (hv : v < 256) (h : ∀ j, t j < 256) : ∀ j, upd t i v j < 256 := fun j => by
  unfold upd; split
  · exact hv
  · exact h j
def sA : ByteArray := ⟨#[97, 98, 99, 97]⟩
theorem sA_list : sA.data.toList = abca := rfl
set_option maxRecDepth 20000 in
set_option maxHeartbeats 4000000 in
theorem hawake_any (w : World) : Calls Try.prog 10 #[] w fun e w' => e = .returned (.bool true) ∧ Ext w w' := by
  have HCt := Lib.hid (fun w => count_any sA (by decide) w)
  have HLn := Lib.hid (fun w => lengths_any (cntF abca) (cntF_small (by decide)) w)
  rw [sA_list] at HCt
  rw [len_abca] at HLn
  have HC1 := Lib.hid (fun w => codes_any L1 (fun i hi => by unfold L1; split; omega; split; omega; split <;> omega) w)
  have HC2 := Lib.hid (fun w => codes_any (upd (fun _ => 0) 0 57) (fun i hi => upd_lt (by decide) (fun _ => by decide) i) w)
  have HC3 := Lib.hid (fun w => codes_any (upd (upd (fun _ => 0) 3 1) 4 2) (fun i hi => upd_lt (by decide) (upd_lt (by decide) (fun _ => by decide)) i) w)
  rw [codE_L1] at HC1
  rw [codE_far] at HC2
  rw [codE_half] at HC3
  have c97 := cod97
  have c98 := cod98
  have c99 := cod99
  generalize codT L1 = C1 at *
  generalize codT (upd (fun _ => 0) 0 57) = C2 at *
  generalize codT (upd (upd (fun _ => 0) 3 1) 4 2) = C3 at *
  have hpl := packP_len abca (by decide)
  have hp56 : ∀ i, lenT (cntF abca) i ≤ 64 := fun i => by have := lenT_text (l := abca) (by decide) i; omega
  have HPk := Lib.hid (fun w => pack_any sA (by decide) hp56 w)
  have HP0 := Lib.hid (fun w => pack_any ⟨#[]⟩ (by decide) (fun i => by have := lenT_text (l := []) (by decide) i; exact Nat.le_trans this (by omega)) w)
  rw [sA_list] at HPk
  change Hid (∀ w, Calls Try.prog _ _ w fun e w' => e = .returned (.string ⟨(packP []).toArray⟩) ∧ Ext w w') at HP0
  rw [pack_nil] at HP0
  obtain ⟨s0, hs0⟩ : ∃ s0 : ByteArray, s0 = ⟨#[0, 1, 0, 255, 1]⟩ := ⟨_, rfl⟩
  have hs2 : s0.toList = [0, 1, 0, 255, 1] := by rw [hs0, ByteArray.toList_eq]
  change Hid (∀ w, Calls Try.prog _ _ w fun e w' => e = .returned (.string ⟨#[0, 1, 0, 255, 1]⟩) ∧ Ext w w') at HP0
  rw [← hs0] at HP0
  clear hs0
  obtain ⟨ps, hps⟩ : ∃ ps : ByteArray, ps = ⟨(packP abca).toArray⟩ := ⟨_, rfl⟩
  rw [← hps] at HPk
  have hpz : ps.size ≤ 6000 := by
    have e : ps.size = (packP abca).length := by rw [hps]; rfl
    have e2 : abca.length = 4 := rfl
    omega
  have hpd : ps.data.toList = packP abca := by rw [hps]
  clear hps hpl hp56
  have HU4 : Hid (∀ w, Calls Try.prog 21 #[.string ps, .int .i64 4] w fun e w' => e = .returned (.tuple #[.string sA, .int .i64 0]) ∧ Ext w w') := Lib.hid (fun w => by
    have h := unpack_any ps (by omega) 4 (by omega) w
    rw [hpd, unpackP_pack abca (by decide) 4 (by decide)] at h
    exact h)
  have HU3 : Hid (∀ w, Calls Try.prog 21 #[.string ps, .int .i64 3] w fun e w' => e = .returned (.tuple #[.string ⟨#[]⟩, .int .i64 4]) ∧ Ext w w') := Lib.hid (fun w => by
    have h := unpack_any ps (by omega) 3 (by omega) w
    rw [hpd, unpackP_long abca (by decide) 3 (by decide) (by decide)] at h
    exact h)
  have HU9 : Hid (∀ w, Calls Try.prog 21 #[.string (ps ++ ⟨#[120]⟩), .int .i64 9] w fun e w' => e = .returned (.tuple #[.string ⟨#[]⟩, .int .i64 3]) ∧ Ext w w') := Lib.hid (fun w => by
    have hz : (ps ++ ⟨#[120]⟩ : ByteArray).size ≤ 100000 := by
      rw [ByteArray.size_append]
      have : (⟨#[120]⟩ : ByteArray).size = 1 := rfl
      omega
    have h := unpack_any (ps ++ ⟨#[120]⟩) hz 9 (by omega) w
    have e : (ps ++ ⟨#[120]⟩ : ByteArray).data.toList = packP abca ++ [120] := by rw [ByteArray.data_append, Array.toList_append, hpd]
    rw [e, unpackP_more abca [120] (by decide) (by simp) 9 (by decide)] at h
    exact h)
  have hcat : (ps ++ ⟨#[120]⟩ : ByteArray).size = ps.size + 1 := by rw [ByteArray.size_append]; rfl
  clear hpd
  have e4 : (tabV .u8 (fun _ => 0)).setIfInBounds 0 (.int .u8 57) = tabV .u8 (upd (fun _ => 0) 0 57) := tabV_set _ _ _ 57 (by decide)
  have e5 : ((tabV .u8 (fun _ => 0)).setIfInBounds 3 (.int .u8 1)).setIfInBounds 4 (.int .u8 2) = tabV .u8 (upd (upd (fun _ => 0) 3 1) 4 2) := by
    rw [show (tabV .u8 (fun _ => 0)).setIfInBounds 3 (.int .u8 1) = tabV .u8 (upd (fun _ => 0) 3 1) from tabV_set _ _ _ 1 (by decide)]
    exact tabV_set _ _ _ 2 (by decide)
  rw [← e4] at HC2
  rw [← e5] at HC3
  have s4 : (Try.prog.info? 27).map (·.size) = some ((tabV .u8 (fun _ => 0)).setIfInBounds 0 (.int .u8 57)).size := by rw [e4]; exact size8 _
  have s5 : (Try.prog.info? 27).map (·.size) = some (((tabV .u8 (fun _ => 0)).setIfInBounds 3 (.int .u8 1)).setIfInBounds 4 (.int .u8 2)).size := by rw [e5]; exact size8 _
  clear e4 e5
  have S4 := Lib.hid s4
  have S5 := Lib.hid s5
  clear s4 s5
  go_enter Try.func10, Try.ntmps10
  go_wp2_with fail
  refine (HCt.out w).mono ?_
  rintro _ w1 ⟨rfl, x1⟩
  go_wp2_with fail
  refine (HLn.out w1).mono ?_
  rintro _ w2 ⟨rfl, x2⟩
  have h0 := (St.start noB w).ext (x1.trans x2)
  clear HCt HLn x1 x2
  have h1 := h0.alloc (tabV .u8 (fun _ => 0)) 27
  have hz := zero8
  have hq := Lib.hid h1.blk
  obtain ⟨w3, hw3, h3⟩ := name_world (P := fun x => St noB w x _) (h1.row (tabV .u8 L1))
  have HW3 := Lib.hid hw3
  clear h0 h1 hw3
  have hq3 := Lib.hid h3.blk
  go_wp2_with (first
    | (with_reducible refine (show wpList _ _ _ _ _ (World.alloc _ _) from ?_); refine wpList_store_row rfl _ _ _ rfl w2.heap.size (tabV .u8 L1) rfl rfl 27 (tabV .u8 (fun _ => 0)) hq.out (size8 _) (tabV_sizes _ _ _) (tabV_one _ _) ?_; rw [HW3.out])
    | (refine wpList_load_row rfl _ _ rfl w2.heap.size rfl 27 (tabV .u8 L1) (0, 0) (.array 256 5) hq3.out Try.underlying27 rfl (size8 _) ?_))
  refine (HC1.out w3).mono ?_
  rintro _ w4 ⟨rfl, x4⟩
  generalize w2.heap.size = b1 at h3 ⊢
  clear hq HW3 hq3 HC1
  have h5 := (h3.ext x4).alloc (tabV .u64 (fun _ => 0)) 25
  have hz2 := zero64
  have hq := Lib.hid h5.blk
  obtain ⟨w6, hw6, h6⟩ := name_world (P := fun x => St noB w x _) (h5.row (tabV .u64 C1))
  have HW6 := Lib.hid hw6
  clear h5 hw6 x4 h3
  have h7 := (h6.alloc ((tabV .u8 (fun _ => 0)).setIfInBounds 0 (.int .u8 57)) 27).alloc (((tabV .u8 (fun _ => 0)).setIfInBounds 3 (.int .u8 1)).setIfInBounds 4 (.int .u8 2)) 27
  rw [size_alloc'] at h7
  have hq4 := Lib.hid (h7.pull 1).blk
  go_wp2_with (first
    | (with_reducible refine (show wpList _ _ _ _ _ (World.alloc (World.alloc _ _) _) from ?_); refine wpList_load_row rfl _ _ rfl w6.heap.size rfl 27 _ (0, 0) (.array 256 5) hq4.out Try.underlying27 rfl S4.out ?_)
    | (with_reducible refine (show wpList _ _ _ _ _ (World.alloc _ _) from ?_); refine wpList_store_row rfl _ _ _ rfl w4.heap.size (tabV .u64 C1) rfl rfl 25 (tabV .u64 (fun _ => 0)) hq.out (size64 _) (tabV_sizes _ _ _) (tabV_one _ _) ?_; rw [HW6.out]))
  refine (HC2.out _).mono ?_
  rintro _ w7 ⟨rfl, x7⟩
  have h8 := h7.ext x7
  clear x7 h7 hq4 h6 HC2 hq HW6
  generalize w6.heap.size + 1 = b5 at h8 ⊢
  generalize w6.heap.size = b4 at h8 ⊢
  generalize w4.heap.size = b2 at h8 ⊢
  have h9 := h8.alloc (tabV .u64 (fun _ => 0)) 25
  have hq := Lib.hid h9.blk
  obtain ⟨w8, hw8, h10⟩ := name_world (P := fun x => St noB w x _) (h9.row (tabV .u64 C2))
  have HW8 := Lib.hid hw8
  have hq5 := Lib.hid (h10.pull 1).blk
  clear h9 hw8 h8
  go_wp2_with (first
    | (with_reducible refine (show wpList _ _ _ _ _ (World.alloc _ _) from ?_); refine wpList_store_row rfl _ _ _ rfl w7.heap.size (tabV .u64 C2) rfl rfl 25 (tabV .u64 (fun _ => 0)) hq.out (size64 _) (tabV_sizes _ _ _) (tabV_one _ _) ?_; rw [HW8.out])
    | (refine wpList_load_row rfl _ _ rfl b5 rfl 27 _ (0, 0) (.array 256 5) hq5.out Try.underlying27 rfl S5.out ?_))
  refine (HC3.out _).mono ?_
  rintro _ w9 ⟨rfl, x9⟩
  have h11 := h10.ext x9
  clear x9 h10 hq5 HC3 HW8 S4 S5 hq
  generalize w7.heap.size = b6 at h11 ⊢
  have h12 := h11.alloc (tabV .u64 (fun _ => 0)) 25
  have hq := Lib.hid h12.blk
  obtain ⟨w10, hw10, h13⟩ := name_world (P := fun x => St noB w x _) (h12.row (tabV .u64 C3))
  have HW10 := Lib.hid hw10
  clear h12 hw10 h11
  go_wp2_with (with_reducible refine (show wpList _ _ _ _ _ (World.alloc _ _) from ?_); refine wpList_store_row rfl _ _ _ rfl w9.heap.size (tabV .u64 C3) rfl rfl 25 (tabV .u64 (fun _ => 0)) hq.out (size64 _) (tabV_sizes _ _ _) (tabV_one _ _) ?_; rw [HW10.out])
  generalize w9.heap.size = b8 at h13 ⊢
  refine (HPk.out _).mono ?_
  rintro _ w11 ⟨rfl, x11⟩
  clear HW10 hq
  go_wp2_with fail
  refine (HU4.out _).mono ?_
  rintro _ w12 ⟨rfl, x12⟩
  go_wp2_with fail
  refine (HU3.out _).mono ?_
  rintro _ w13 ⟨rfl, x13⟩
  go_wp2_with fail
  refine (HU9.out _).mono ?_
  rintro _ w14 ⟨rfl, x14⟩
  have h15 := (((h13.ext x11).ext x12).ext x13).ext x14
  clear x11 x12 x13 x14 h13 HU4 HU3 HU9 HPk hpz
  have kL := cell_of_heap (h15.pull 5).blk
  have kC := cell_of_heap (h15.pull 4).blk
  have k97 := kL 97
  have k98 := kL 98
  have k99 := kL 99
  have k100 := kL 100
  have j97 := kC 97
  have j98 := kC 98
  have j99 := kC 99
  rw [tabV_get _ _ _ (by decide)] at k97 k98 k99 k100 j97 j98 j99
  rw [c97] at j97
  rw [c98] at j98
  rw [c99] at j99
  clear kL kC
  change w14.cell? _ = some (.int .u8 1) at k97
  change w14.cell? _ = some (.int .u8 2) at k98
  change w14.cell? _ = some (.int .u8 2) at k99
  change w14.cell? _ = some (.int .u8 0) at k100
  change w14.cell? _ = some (.int .u64 0) at j97
  change w14.cell? _ = some (.int .u64 2) at j98
  change w14.cell? _ = some (.int .u64 3) at j99
  have HX := Lib.hid h15.ends
  clear h15
  generalize hcf : cntF abca = cf
  go_wp2_with fail
  refine (HP0.out _).mono ?_
  rintro _ w15 ⟨rfl, x15⟩
  have hs1 : sA.toList = [97, 98, 99, 97] := by rw [ByteArray.toList_eq]; rfl
  generalize sA = sa at *
  go_wp2_with fail
  go_ret
  exact ⟨rfl, HX.out.trans x15⟩
end Go.Proofs.Ytclhmlgbhlmekaa
