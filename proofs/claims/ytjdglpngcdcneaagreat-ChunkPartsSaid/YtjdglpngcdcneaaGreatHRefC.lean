/- Layer 7, the document's: Whole, Codes, Count. -/
import Derived.Test.YtjdglpngcdcneaaGreatHf
namespace Go.Proofs.YtjdglpngcdcneaaGreat
open Go.RowKit
set_option linter.unusedVariables false
set_option linter.unusedSimpArgs false
set_option linter.unusedSectionVars false
def oneT (t : Nat → Nat) : Nat → Nat
  | 0 => 0
  | i + 1 => oneT t i + (if t i = 1 then 1 else 0)
theorem oneT_le (t : Nat → Nat) : ∀ i, oneT t i ≤ i
  | 0 => Nat.le_refl _
  | i + 1 => by have := oneT_le t i; unfold oneT; split <;> omega
def wholeP (t : Nat → Nat) : Bool := decide (cntT t 256 = 0) || (decide (cntT t 256 = 1) && decide (oneT t 256 = 1)) || decide (sumT t 256 = 72057594037927936)
theorem tabV_sizesR (k : IntKind) (t u : Nat → Nat) : (tabV k t).size = (tabV k u).size := by rw [tabV_size, tabV_size]
def reC (t : Nat → Nat) : Nat → Nat := (cOut t 56).2
set_option maxRecDepth 20000 in
set_option maxHeartbeats 2000000 in
theorem rcodes_any (t : Nat → Nat) (ht : ∀ i, i < 256 → t i < 256) (w : World) :
    Calls Tryz.prog 47 #[.agg (tabV .u8 t)] w fun e w' => e = .returned (.agg (tabV .u64 (reC t))) ∧ Ext w w' := by
  obtain ⟨T, hT⟩ : ∃ T, T = tabV .u8 t := ⟨_, rfl⟩
  have hT0 : ∀ i, i < 256 → T[i]? = some (.int .u8 (t i)) := fun i hi => by rw [hT]; exact tabV_get _ _ i hi
  rw [← hT]
  clear hT
  have h1 := (((St.start noB w).alloc T 74).alloc (tabV .u64 (fun _ => 0)) 76).alloc (tabV .u64 (fun _ => 0)) 76
  rw [size_alloc', size_alloc'] at h1
  have hz := zero64
  have HF : Hid (reC t = (cOut t 56).2) := Lib.hid rfl
  generalize reC t = R at *
  go_enter Tryz.func47, Tryz.ntmps47
  go_wp2_with fail
  generalize ((w.alloc (.cells T 74)).alloc (.cells (tabV .u64 (fun _ => 0)) 76)).alloc (.cells (tabV .u64 (fun _ => 0)) 76) = w1 at h1 ⊢
  generalize w.heap.size + 1 + 1 = cb at h1 ⊢
  generalize w.heap.size + 1 = ob at h1 ⊢
  generalize w.heap.size = lb at h1 ⊢
  clear hz
  go_loopw [4, 5] (fun v4 v5 wr => ∃ k : Nat, v4 = .int .u64 (cOut t k).1 ∧ v5 = .int .u8 ((k : Int) + 1) ∧ k ≤ 56 ∧ St noB w wr [blkT cb (tabV .u64 (cOut t k).2) 76, blkT ob (tabV .u64 (fun _ => 0)) 76, blkT lb T 74]) (fun _ v5 _ => 57 - (intOf v5).toNat)
  case atStart => exact ⟨0, rfl, rfl, by omega, h1⟩
  case round =>
    clear h1
    obtain ⟨k, rfl, rfl, hk, h⟩ := hrel
    by_cases hlt : k < 56
    · have hl1 : (k : Int) + 1 ≤ 56 := by omega
      have hm : IntKind.u64.wrap (((cOut t k).1 : Int) * 2) = (((cOut t k).1 * 2 % 18446744073709551616 : Nat) : Int) := by rw [IntKind.wrap_u64]; omega
      have HS : Hid (cOut t (k + 1) = cIn t k 256 ((cOut t k).1 * 2 % 18446744073709551616, (cOut t k).2)) := Lib.hid rfl
      obtain ⟨s, hs⟩ : ∃ s, s = ((cOut t k).1 * 2 % 18446744073709551616, (cOut t k).2) := ⟨_, rfl⟩
      have e1 : (cOut t k).1 * 2 % 18446744073709551616 = s.1 := by rw [hs]
      have e2 : (cOut t k).2 = s.2 := by rw [hs]
      rw [e1] at hm
      rw [e2] at h
      rw [← hs] at HS
      clear hs e1 e2
      generalize (cOut t k).1 = co at hm ⊢
      go_wp2_with fail
      clear hm
      go_loopw [4, 6] (fun v4 v6 wr => ∃ i : Nat, v4 = .int .u64 (cIn t k i s).1 ∧ v6 = .int .i64 i ∧ i ≤ 256 ∧ St noB w wr [blkT cb (tabV .u64 (cIn t k i s).2) 76, blkT ob (tabV .u64 (fun _ => 0)) 76, blkT lb T 74]) (fun _ v6 _ => 256 - (intOf v6).toNat)
      case atStart => exact ⟨0, rfl, rfl, by omega, h⟩
      case round =>
        clear h
        obtain ⟨i, rfl, rfl, hi, h⟩ := hrel
        by_cases hli : i < 256
        · have hl2 : (i : Int) < 256 := by omega
          have k1 := cell_of_heap (h.pull 2).blk i
          rw [hT0 i hli] at k1
          by_cases e : t i = k + 1
          · have f0 := free_of_heap h.blk i
            have k0 := cell_of_heap h.blk i
            rw [tabV_get _ _ _ hli] at k0
            have h3 := h.set i (.int .u64 ((cIn t k i s).1 : Nat))
            rw [tabV_set _ _ _ _ hli] at h3
            have E1 : cIn t k (i + 1) s = (((cIn t k i s).1 + 1) % 18446744073709551616, upd (cIn t k i s).2 i (cIn t k i s).1) := by rw [cIn, if_pos e]
            have E2 : (cIn t k (i + 1) s).1 = ((cIn t k i s).1 + 1) % 18446744073709551616 := by rw [E1]
            have E3 : (cIn t k (i + 1) s).2 = upd (cIn t k i s).2 i (cIn t k i s).1 := by rw [E1]
            rw [← E3] at h3
            have hw : IntKind.u64.wrap (((cIn t k i s).1 : Int) + 1) = ((cIn t k (i + 1) s).1 : Nat) := by rw [E2, IntKind.wrap_u64]; omega
            clear h E1 E2 E3
            generalize (cIn t k i s).1 = p at hw f0 h3 ⊢
            generalize (cIn t k i s).2 i = p0 at k0
            rw [e] at k1
            clear e
            go_wp2_with fail
            exact ⟨⟨i + 1, rfl, by go_num, by omega, h3⟩, by simp only [intOf]; omega⟩
          · have e2 : ¬ ((t i : Int) = (k : Int) + 1) := by omega
            have E1 : cIn t k (i + 1) s = cIn t k i s := by rw [cIn, if_neg e]
            rw [← E1] at h ⊢
            clear e E1
            generalize t i = x at k1 e2
            go_wp2_with fail
            exact ⟨⟨i + 1, rfl, by go_num, by omega, h⟩, by simp only [intOf]; omega⟩
        · obtain rfl : i = 256 := by omega
          have hl2 : ¬ ((256 : Nat) : Int) < 256 := by omega
          have hk8 : IntKind.u8.wrap ((k : Int) + 1 + 1) = (k : Int) + 1 + 1 := by rw [IntKind.wrap_u8]; omega
          rw [← HS.out] at h ⊢
          go_wp2_with fail
          exact ⟨⟨k + 1, rfl, rfl, by omega, h⟩, by simp only [intOf]; omega⟩
    · obtain rfl : k = 56 := by omega
      have hl1 : ¬ ((56 : Nat) : Int) + 1 ≤ 56 := by omega
      rw [← HF.out] at h
      generalize (cOut t 56).1 = co
      have hb := Lib.hid h.blk
      have h2 := h.swap.row (tabV .u64 R)
      have hq := Lib.hid h.swap.blk
      clear h
      go_wp2_with (first
        | (refine wpList_load_row rfl _ _ rfl cb rfl 76 (tabV .u64 R) (0, 0) (.array 256 34) hb.out Tryz.underlying76 rfl (size64 _) ?_)
        | (refine wpList_store_row rfl _ _ _ rfl ob (tabV .u64 R) rfl rfl 76 (tabV .u64 (fun _ => 0)) hq.out (size64 _) (tabV_sizesR _ _ _) (tabV_one _ _) ?_))
      refine bodyPost_ret_by (v := .agg (tabV .u64 R)) (results_cell_row rfl _ _ ob 76 (tabV .u64 R) (0, 0) (.array 256 34) rfl h2.blk Tryz.underlying76 rfl (size64 _)) rfl ?_
      exact ⟨rfl, h2.ends⟩
set_option maxRecDepth 20000 in
set_option maxHeartbeats 2000000 in
theorem rcount_any (s : ByteArray) (hs : s.size ≤ 140737488351232) (w : World) :
    Calls Tryz.prog 46 #[.string s] w fun e w' => e = .returned (.agg (tabV .u64 (cntF s.data.toList))) ∧ Ext w w' := by
  have hz := zero64
  have h1 := ((St.start noB w).alloc (tabV .u64 (fun _ => 0)) 76).alloc (tabV .u64 (fun _ => 0)) 76
  rw [size_alloc'] at h1
  obtain ⟨R, hR⟩ : ∃ R, R = cntF s.data.toList := ⟨_, rfl⟩
  rw [← hR]
  have HF := Lib.hid hR
  clear hR
  go_enter Tryz.func46, Tryz.ntmps46
  go_wp2_with fail
  generalize (w.alloc (.cells (tabV .u64 (fun _ => 0)) 76)).alloc (.cells (tabV .u64 (fun _ => 0)) 76) = w1 at h1 ⊢
  generalize w.heap.size + 1 = g at h1 ⊢
  generalize w.heap.size = ob at h1 ⊢
  clear hz
  go_loopw [4] (fun v4 wr => ∃ i : Nat, v4 = .int .i64 i ∧ i ≤ s.size ∧ St noB w wr [blkT g (tabV .u64 (cntF (s.data.toList.take i))) 76, blkT ob (tabV .u64 (fun _ => 0)) 76]) (fun v4 _ => s.size - (intOf v4).toNat)
  case atStart => exact ⟨0, rfl, Nat.zero_le _, h1⟩
  case round =>
    clear h1
    obtain ⟨i, rfl, hi, h⟩ := hrel
    by_cases hlt : i < s.size
    · have hx8 := s[i].toNat_lt
      have ht : s.data.toList.take (i + 1) = s.data.toList.take i ++ [s[i]] := by
        rw [List.take_succ_eq_append_getElem (by simpa using hlt)]; rfl
      have hle := cntF_le (s.data.toList.take i) s[i].toNat
      rw [List.length_take] at hle
      have hb := h.blk
      have k0 := cell_of_heap hb s[i].toNat
      rw [tabV_get _ _ _ (by omega)] at k0
      have f0 := free_of_heap hb s[i].toNat
      have h2 := h.set s[i].toNat (.int .u64 ((cntF (s.data.toList.take i) s[i].toNat + 1 : Nat) : Int))
      rw [tabV_set _ _ _ _ (by omega), ← cntF_snoc, ← ht] at h2
      clear h hb ht
      obtain ⟨x, hx⟩ : ∃ x, s[i].toNat = x := ⟨_, rfl⟩
      rw [hx] at k0 f0 h2 hx8 hle
      generalize cntF (s.data.toList.take i) x = q at k0 h2 hle
      have hlz : (i : Int) < (s.size : Int) := by omega
      have hw : IntKind.u64.wrap ((q : Int) + 1) = (q : Int) + 1 := by rw [IntKind.wrap_u64]; omega
      go_wp2_with fail
      exact ⟨⟨i + 1, by go_num, by omega, h2⟩, by simp only [intOf]; omega⟩
    · obtain rfl : i = s.size := by omega
      rw [List.take_of_length_le (by simp)] at h
      have hlz : ¬ (s.size : Int) < (s.size : Int) := by omega
      rw [← HF.out] at h
      have hb := Lib.hid h.blk
      have h2 := h.swap.row (tabV .u64 R)
      have hq := Lib.hid h.swap.blk
      clear h
      go_wp2_with (first
        | (refine wpList_load_row rfl _ _ rfl g rfl 76 (tabV .u64 R) (0, 0) (.array 256 34) hb.out Tryz.underlying76 rfl (size64 _) ?_)
        | (refine wpList_store_row rfl _ _ _ rfl ob (tabV .u64 R) rfl rfl 76 (tabV .u64 (fun _ => 0)) hq.out (size64 _) (tabV_sizesR _ _ _) (tabV_one _ _) ?_))
      refine bodyPost_ret_by (v := .agg (tabV .u64 R)) (results_cell_row rfl _ _ ob 76 (tabV .u64 R) (0, 0) (.array 256 34) rfl h2.blk Tryz.underlying76 rfl (size64 _)) rfl ?_
      exact ⟨rfl, h2.ends⟩
end Go.Proofs.YtjdglpngcdcneaaGreat
