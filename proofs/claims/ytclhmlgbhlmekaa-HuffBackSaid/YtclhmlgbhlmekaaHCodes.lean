/- Layer 7: codes. -/
import Derived.Test.YtclhmlgbhlmekaaTab
import Derived.Test.YtclhmlgbhlmekaaHConc2
namespace Go.Proofs.Ytclhmlgbhlmekaa
open Go.RowKit
set_option linter.unusedVariables false
set_option linter.unusedSimpArgs false
theorem results_pairH {P : Program} {fn : Func} {p u : Tmp} {ty : TypeId} (h : fn.results = #[.cell p ty, .tmp u]) (tmps : Array Value) (w : World) (g : Nat) (t : TypeId) (cs : Array Value) (fr : Nat × Nat) (d : TypeDesc)
    (hp : tmps.getD p undef = .pointer (some ⟨g, 0, none⟩)) (hg : w.heap[g]? = some (.cells cs t fr))
    (hu : P.underlying ty = some d) (hd : (match d with | .struct _ | .array _ _ => true | _ => false) = true) (hi : (P.info? ty).map (·.size) = some cs.size) :
    (results fn tmps).run P w = .ok (.tuple #[.agg cs, tmps.getD u undef]) w := by
  rw [results_cell_tmp h, hp]
  simp [asAddr, Result.andThen, run_loadVar_row w g t ty cs fr d hg hu hd hi]
/-- the sum of the parts, and how many codes there are, of the first i lengths -/
def sumT (t : Nat → Nat) : Nat → Nat
  | 0 => 0
  | i + 1 => sumT t i + (if 0 < t i then 2 ^ (56 - t i) else 0)
def cntT (t : Nat → Nat) : Nat → Nat
  | 0 => 0
  | i + 1 => cntT t i + (if 0 < t i then 1 else 0)
theorem pow_55 : (2 : Nat) ^ 55 = 36028797018963968 := rfl
theorem pow_part (k : Nat) (h : 0 < k) : 2 ^ (56 - k) ≤ 36028797018963968 := by
  rw [← pow_55]
  exact Nat.pow_le_pow_right (by omega) (by omega)
theorem pow_quot (k : Nat) (h : k ≤ 56) : (72057594037927936 : Int) / 2 ^ k = ((2 ^ (56 - k) : Nat) : Int) := by
  have e : (72057594037927936 : Nat) / 2 ^ k = 2 ^ (56 - k) := by
    rw [show (72057594037927936 : Nat) = 2 ^ 56 from rfl, Nat.pow_div h (by omega)]
  rw [← e, Int.natCast_ediv, Int.natCast_pow]; rfl
theorem size_alloc' (w : World) (o : Obj) : (w.alloc o).heap.size = w.heap.size + 1 := by show (w.heap.push o).size = _; simp
theorem sumT_le (t : Nat → Nat) : ∀ i, sumT t i ≤ i * 36028797018963968
  | 0 => Nat.zero_le _
  | i + 1 => by
    have ih := sumT_le t i
    have e : (i + 1) * 36028797018963968 = i * 36028797018963968 + 36028797018963968 := Nat.succ_mul _ _
    rw [e]
    unfold sumT
    by_cases h : 0 < t i
    · rw [if_pos h]; exact Nat.add_le_add ih (pow_part (t i) h)
    · rw [if_neg h]; exact Nat.le_trans ih (Nat.le_add_right _ _)
theorem cntT_le (t : Nat → Nat) : ∀ i, cntT t i ≤ i
  | 0 => Nat.le_refl _
  | i + 1 => by have := cntT_le t i; unfold cntT; split <;> omega
/-- codes: one length's round over the first i bytes; all lengths up to k -/
def cIn (t : Nat → Nat) (k : Nat) : Nat → Nat × (Nat → Nat) → Nat × (Nat → Nat)
  | 0, s => s
  | i + 1, s => if t i = k + 1 then (((cIn t k i s).1 + 1) % 18446744073709551616, upd (cIn t k i s).2 i (cIn t k i s).1) else cIn t k i s
def cOut (t : Nat → Nat) : Nat → Nat × (Nat → Nat)
  | 0 => (0, fun _ => 0)
  | k + 1 => cIn t k 256 ((cOut t k).1 * 2 % 18446744073709551616, (cOut t k).2)
def greatT (t : Nat → Nat) : Bool := (List.range 256).any fun i => decide (56 < t i)
def codE (t : Nat → Nat) : Nat := if greatT t then 1 else if 0 < cntT t 256 ∧ sumT t 256 ≠ 72057594037927936 ∧ ¬ (cntT t 256 = 1 ∧ sumT t 256 = 36028797018963968) then 3 else 0
def codT (t : Nat → Nat) : Nat → Nat := if codE t = 0 then (cOut t 56).2 else fun _ => 0
set_option maxRecDepth 20000 in
set_option maxHeartbeats 8000000 in
theorem codes_any (t : Nat → Nat) (ht : ∀ i, i < 256 → t i < 256) (w : World) :
    Calls Try.prog 14 #[.agg (tabV .u8 t)] w fun e w' => e = .returned (.tuple #[.agg (tabV .u64 (codT t)), .int .i64 (codE t : Nat)]) ∧ Ext w w' := by
  obtain ⟨T, hT⟩ : ∃ T, T = tabV .u8 t := ⟨_, rfl⟩
  have hT0 : ∀ i, i < 256 → T[i]? = some (.int .u8 (t i)) := fun i hi => by rw [hT]; exact tabV_get _ _ i hi
  have hTs : T.size = 256 := by rw [hT, tabV_size]
  rw [← hT]
  have HT := Lib.hid hT
  clear hT
  have hz := zero64
  have h1 := ((St.start noB w).alloc T 27).alloc (tabV .u64 (fun _ => 0)) 25
  go_enter Try.func14, Try.ntmps14
  rw [size_alloc'] at h1
  have hb := h1.swap.blk
  have hs8 : (Try.prog.info? 27).map (·.size) = some T.size := by rw [hTs]; kernel_rfl
  go_wp2_with (refine wpList_load_row rfl _ _ rfl w.heap.size rfl 27 T (0, 0) (.array 256 5) hb Try.underlying27 rfl hs8 ?_)
  clear hb hs8 hz
  have h2 : St noB w _ [blkT (w.heap.size + 1) (tabV .u64 (fun _ => 0)) 25, blkT w.heap.size T 27] := h1
  clear h1
  generalize hw1 : (w.alloc (.cells T 27)).alloc (.cells (tabV .u64 (fun _ => 0)) 25) = w1 at h2 ⊢
  generalize w.heap.size + 1 = cb at h2 ⊢
  generalize w.heap.size = lb at h2 ⊢
  have HG : Hid (∀ j, j < 0 → t j ≤ 56) := Lib.hid (fun j hj => by omega)
  go_loopw [4, 5, 12] (fun v4 v5 v12 wr => ∃ i : Nat, v4 = .int .u64 (sumT t i) ∧ v5 = .int .i64 (cntT t i) ∧ v12 = .int .i64 i ∧ i ≤ 256 ∧ Hid (∀ j, j < i → t j ≤ 56) ∧ wr = w1) (fun _ _ v12 _ => 256 - (intOf v12).toNat)
  case atStart => exact ⟨0, rfl, rfl, rfl, by omega, HG, rfl⟩
  case round =>
    clear HG hw1
    obtain ⟨i, rfl, rfl, rfl, hi, HG, rfl⟩ := hrel
    by_cases hlt : i < 256
    · have hT1 := fun w => index8 T i _ hlt (hT0 i hlt) w
      have ht1 := ht i hlt
      have hs := sumT_le t i
      have hcn := cntT_le t i
      have hlz : (i : Int) < 256 := by omega
      by_cases hg : 56 < t i
      · have hg2 : (56 : Int) < (t i : Int) := by omega
        have hE : codE t = 1 := by
          unfold codE
          rw [if_pos]
          unfold greatT
          rw [List.any_eq_true]
          exact ⟨i, List.mem_range.2 hlt, decide_eq_true hg⟩
        have HE := Lib.hid hE
        have hb := Lib.hid h2.blk
        clear hs hcn hE hg
        generalize t i = x at hT1 ht1 hg2
        go_wp2_with (first
          | (refine wpList_load_row rfl _ _ rfl cb rfl 25 (tabV .u64 (fun _ => 0)) (0, 0) (.array 256 24) hb.out Try.underlying25 rfl (size64 _) ?_)
          | (refine wpList_store_row rfl _ _ _ rfl cb (tabV .u64 (fun _ => 0)) rfl rfl 25 (tabV .u64 (fun _ => 0)) hb.out (size64 _) rfl (tabV_one _ _) ?_; rw [setRow_self _ _ _ _ _ hb.out]))
        refine bodyPost_ret_by (results_pairH rfl _ _ cb 25 _ (0, 0) (.array 256 24) rfl hb.out Try.underlying25 rfl (size64 _)) rfl ?_
        unfold codT
        rw [HE.out, if_neg (by omega)]
        exact ⟨rfl, h2.ends⟩
      · have HG2 : Hid (∀ j, j < i + 1 → t j ≤ 56) := Lib.hid (fun j hj => by
          by_cases e : j = i
          · subst e; omega
          · exact HG.out j (by omega))
        by_cases hz : t i = 0
        · have e1 : sumT t (i + 1) = sumT t i := by rw [sumT, if_neg (by omega)]; rfl
          have e2 : cntT t (i + 1) = cntT t i := by rw [cntT, if_neg (by omega)]; rfl
          rw [hz] at hT1
          clear hg ht1 HG hz
          have H1 := Lib.hid e1
          have H2 := Lib.hid e2
          clear e1 e2
          go_wp2_with fail
          exact ⟨⟨i + 1, by rw [H1.out], by rw [H2.out], by go_num, by omega, HG2, trivial⟩, by simp [intOf]; omega⟩
        · have hz2 : (0 : Int) < (t i : Int) := by omega
          have hg2 : ¬ (56 : Int) < (t i : Int) := by omega
          have H1 := Lib.hid (show sumT t (i + 1) = sumT t i + 2 ^ (56 - t i) by rw [sumT, if_pos (by omega)])
          have H2 := Lib.hid (show cntT t (i + 1) = cntT t i + 1 by rw [cntT, if_pos (by omega)])
          have hp := pow_part (t i) (by omega)
          have hq := Lib.hid (pow_quot (t i) (by omega))
          generalize t i = x at hT1 ht1 hz2 hg2 H1 hp hq
          have hq2 := Lib.hid (show IntKind.u64.wrap ((sumT t i : Int) + 72057594037927936 / 2 ^ x) = ((sumT t (i + 1) : Nat) : Int) by
            rw [hq.out, H1.out]
            generalize 2 ^ (56 - x) = y at hp ⊢
            rw [IntKind.wrap_u64]; omega)
          clear hg HG hz
          go_wp2_with fail
          exact ⟨⟨i + 1, by rw [hq2.out], by rw [H2.out]; go_num, by go_num, by omega, HG2, trivial⟩, by simp [intOf]; omega⟩
    · obtain rfl : i = 256 := by omega
      have hgr : greatT t = false := by
        unfold greatT
        rw [List.any_eq_false]
        intro j hj
        have := HG.out j (List.mem_range.1 hj)
        simp; omega
      have hlz : ¬ (256 : Int) < 256 := by omega
      have hE : codE t = if 0 < cntT t 256 ∧ sumT t 256 ≠ 72057594037927936 ∧ ¬ (cntT t 256 = 1 ∧ sumT t 256 = 36028797018963968) then 3 else 0 := by
        unfold codE; rw [if_neg (by rw [hgr]; exact Bool.false_ne_true)]
      have HE := Lib.hid hE
      clear hE hgr HG hlt hi
      have hs := sumT_le t 256
      have hcn := cntT_le t 256
      generalize sumT t 256 = q at HE hs ⊢
      generalize cntT t 256 = c at HE hcn ⊢
      by_cases hA : 0 < c ∧ q ≠ 72057594037927936 ∧ ¬ (c = 1 ∧ q = 36028797018963968)
      · have HE3 : Hid (codE t = 3) := Lib.hid (by rw [HE.out, if_pos hA])
        clear HE
        obtain ⟨a1, a2, a3⟩ := hA
        have b1 : (0 : Int) < (c : Int) := by omega
        have b2 : ¬ ((q : Int) = 72057594037927936) := by omega
        have b5 : ((q : Int) != 72057594037927936) = true := by rw [bne_iff_ne]; exact b2
        have hb := Lib.hid h2.blk
        by_cases c1 : c = 1
        · have b3 : ¬ ((q : Int) = 36028797018963968) := by omega
          have b6 : ((q : Int) == 36028797018963968) = false := by rw [beq_eq_false_iff_ne]; exact b3
          have b4 : (c : Int) = 1 := by omega
          clear a1 a2 a3 c1
          go_wp2_with (first
            | (refine wpList_load_row rfl _ _ rfl cb rfl 25 (tabV .u64 (fun _ => 0)) (0, 0) (.array 256 24) hb.out Try.underlying25 rfl (size64 _) ?_)
            | (refine wpList_store_row rfl _ _ _ rfl cb (tabV .u64 (fun _ => 0)) rfl rfl 25 (tabV .u64 (fun _ => 0)) hb.out (size64 _) rfl (tabV_one _ _) ?_; rw [setRow_self _ _ _ _ _ hb.out]))
          refine bodyPost_ret_by (results_pairH rfl _ _ cb 25 _ (0, 0) (.array 256 24) rfl hb.out Try.underlying25 rfl (size64 _)) rfl ?_
          unfold codT
          rw [HE3.out, if_neg (by omega)]
          exact ⟨rfl, h2.ends⟩
        · have b3 : ¬ ((c : Int) = 1) := by omega
          clear a1 a2 a3 c1
          go_wp2_with (first
            | (refine wpList_load_row rfl _ _ rfl cb rfl 25 (tabV .u64 (fun _ => 0)) (0, 0) (.array 256 24) hb.out Try.underlying25 rfl (size64 _) ?_)
            | (refine wpList_store_row rfl _ _ _ rfl cb (tabV .u64 (fun _ => 0)) rfl rfl 25 (tabV .u64 (fun _ => 0)) hb.out (size64 _) rfl (tabV_one _ _) ?_; rw [setRow_self _ _ _ _ _ hb.out]))
          refine bodyPost_ret_by (results_pairH rfl _ _ cb 25 _ (0, 0) (.array 256 24) rfl hb.out Try.underlying25 rfl (size64 _)) rfl ?_
          unfold codT
          rw [HE3.out, if_neg (by omega)]
          exact ⟨rfl, h2.ends⟩
      · have HE0 : Hid (codE t = 0) := Lib.hid (by rw [HE.out, if_neg hA])
        clear HE
        by_cases c0 : c = 0
        · have b1 : ¬ (0 : Int) < (c : Int) := by omega
          clear hA hcn c0
          go_wp2_with fail
          clear hs
          go_loopw [8, 43] (fun v8 v43 wr => ∃ k : Nat, v8 = .int .u64 (cOut t k).1 ∧ v43 = .int .u8 k ∧ k ≤ 56 ∧ St noB w wr [blkT cb (tabV .u64 (cOut t k).2) 25, blkT lb T 27]) (fun _ v43 _ => 56 - (intOf v43).toNat)
          case atStart => exact ⟨0, rfl, rfl, by omega, h2⟩
          case round =>
            clear h2
            obtain ⟨k, rfl, rfl, hk, h⟩ := hrel
            by_cases hlt : k < 56
            · have hl1 : (k : Int) < 56 := by omega
              have hm : IntKind.u64.wrap (((cOut t k).1 : Int) * 2) = (((cOut t k).1 * 2 % 18446744073709551616 : Nat) : Int) := by rw [IntKind.wrap_u64]; omega
              have hk8 : IntKind.u8.wrap ((k : Int) + 1) = (k : Int) + 1 := by rw [IntKind.wrap_u8]; omega
              have HS : Hid (cOut t (k + 1) = cIn t k 256 ((cOut t k).1 * 2 % 18446744073709551616, (cOut t k).2)) := Lib.hid rfl
              obtain ⟨s, hs⟩ : ∃ s, s = ((cOut t k).1 * 2 % 18446744073709551616, (cOut t k).2) := ⟨_, rfl⟩
              have e1 : (cOut t k).1 * 2 % 18446744073709551616 = s.1 := by rw [hs]
              have e2 : (cOut t k).2 = s.2 := by rw [hs]
              rw [e1] at hm
              rw [e2] at h
              rw [← hs] at HS
              clear hs e1 e2
              generalize (cOut t k).1 = c0 at hm ⊢
              go_wp2_with fail
              clear hm
              go_loopw [8, 48] (fun v8 v48 wr => ∃ i : Nat, v8 = .int .u64 (cIn t k i s).1 ∧ v48 = .int .i64 i ∧ i ≤ 256 ∧ St noB w wr [blkT cb (tabV .u64 (cIn t k i s).2) 25, blkT lb T 27]) (fun _ v48 _ => 256 - (intOf v48).toNat)
              case atStart => exact ⟨0, rfl, rfl, by omega, h⟩
              case round =>
                clear h
                obtain ⟨i, rfl, rfl, hi, h⟩ := hrel
                by_cases hli : i < 256
                · have hl2 : (i : Int) < 256 := by omega
                  have k1 := cell_of_heap h.swap.blk i
                  rw [hT0 i hli] at k1
                  by_cases e : t i = k + 1
                  · have f0 := free_of_heap h.blk i
                    have k0 := cell_of_heap h.blk i
                    rw [tabV_get _ _ _ hli] at k0
                    have h3 := h.set i (.int .u64 ((cIn t k i s).1 : Nat))
                    rw [tabV_set _ _ _ _ hli] at h3
                    have E1 : cIn t k (i + 1) s = (((cIn t k i s).1 + 1) % 18446744073709551616, upd (cIn t k i s).2 i (cIn t k i s).1) := by rw [cIn, if_pos e]
                    have E2 : (cIn t k (i + 1) s).1 = ((cIn t k i s).1 + 1) % 18446744073709551616 := by rw [E1]
                    have E3 : (cIn t k (i + 1) s).2 = upd (cIn t k i s).2 i (cIn t k i s).1 := by rw [E1]
                    rw [← E3] at h3
                    have hw : IntKind.u64.wrap (((cIn t k i s).1 : Int) + 1) = ((cIn t k (i + 1) s).1 : Nat) := by rw [E2, IntKind.wrap_u64]; omega
                    clear h E1 E2 E3
                    generalize (cIn t k i s).1 = p at hw f0 h3 ⊢
                    generalize (cIn t k i s).2 i = p0 at k0
                    rw [e] at k1
                    clear e
                    go_wp2_with fail
                    go_roundw
                    case rel => first | exact ⟨i + 1, rfl, by go_num, by omega, h3⟩ | ((repeat apply Exists.intro); exact ⟨⟨i + 1, rfl, by go_num, by omega, h3⟩, rfl⟩)
                    case measure => first | (simp [intOf]; done) | (simp [intOf]; omega)
                  · have e2 : ¬ ((t i : Int) = (k : Int) + 1) := by omega
                    have E1 : cIn t k (i + 1) s = cIn t k i s := by rw [cIn, if_neg e]
                    rw [← E1] at h ⊢
                    clear e E1
                    generalize t i = x at k1 e2
                    go_wp2_with fail
                    go_roundw
                    case rel => first | exact ⟨i + 1, rfl, by go_num, by omega, h⟩ | ((repeat apply Exists.intro); exact ⟨⟨i + 1, rfl, by go_num, by omega, h⟩, rfl⟩)
                    case measure => first | (simp [intOf]; done) | (simp [intOf]; omega)
                · obtain rfl : i = 256 := by omega
                  have hl2 : ¬ (256 : Int) < 256 := by omega
                  rw [← HS.out] at h ⊢
                  go_wp2_with fail
                  go_roundw
                  case rel => first | exact ⟨k + 1, rfl, by go_num, by omega, h⟩ | ((repeat apply Exists.intro); exact ⟨⟨k + 1, rfl, by go_num, by omega, h⟩, rfl⟩)
                  case measure => first | (simp [intOf]; done) | (simp [intOf]; omega)
            · have hl1 : ¬ (k : Int) < 56 := by omega
              have hb := Lib.hid h.blk
              have HF : Hid (codT t = (cOut t k).2) := Lib.hid (by obtain rfl : k = 56 := by omega
                                                                   unfold codT; rw [if_pos HE0.out])
              clear hlt hk
              have HX := Lib.hid h.ends
              clear h
              rw [← HF.out] at hb
              clear HF
              obtain ⟨ct, hct⟩ : ∃ ct, ct = codT t := ⟨_, rfl⟩
              rw [← hct] at hb
              have HC := Lib.hid hct
              clear hct
              generalize (cOut t k).1 = co
              go_wp2_with (first
                | (refine wpList_load_row rfl _ _ rfl cb rfl 25 (tabV .u64 ct) (0, 0) (.array 256 24) hb.out Try.underlying25 rfl (size64 _) ?_)
                | (refine wpList_store_row rfl _ _ _ rfl cb (tabV .u64 ct) rfl rfl 25 (tabV .u64 ct) hb.out (size64 _) rfl (tabV_one _ _) ?_; rw [setRow_self _ _ _ _ _ hb.out]))
              rw [← HC.out, HE0.out]
              refine bodyPost_ret_by (results_pairH rfl _ _ cb 25 _ (0, 0) (.array 256 24) rfl hb.out Try.underlying25 rfl (size64 _)) rfl ?_
              exact ⟨rfl, HX.out⟩
        · have b1 : (0 : Int) < (c : Int) := by omega
          by_cases c1 : q = 72057594037927936
          · have b2 : (q : Int) = 72057594037927936 := by omega
            clear hA hcn c0 c1
            go_wp2_with fail
            clear hs
            go_loopw [8, 43] (fun v8 v43 wr => ∃ k : Nat, v8 = .int .u64 (cOut t k).1 ∧ v43 = .int .u8 k ∧ k ≤ 56 ∧ St noB w wr [blkT cb (tabV .u64 (cOut t k).2) 25, blkT lb T 27]) (fun _ v43 _ => 56 - (intOf v43).toNat)
            case atStart => exact ⟨0, rfl, rfl, by omega, h2⟩
            case round =>
              clear h2
              obtain ⟨k, rfl, rfl, hk, h⟩ := hrel
              by_cases hlt : k < 56
              · have hl1 : (k : Int) < 56 := by omega
                have hm : IntKind.u64.wrap (((cOut t k).1 : Int) * 2) = (((cOut t k).1 * 2 % 18446744073709551616 : Nat) : Int) := by rw [IntKind.wrap_u64]; omega
                have hk8 : IntKind.u8.wrap ((k : Int) + 1) = (k : Int) + 1 := by rw [IntKind.wrap_u8]; omega
                have HS : Hid (cOut t (k + 1) = cIn t k 256 ((cOut t k).1 * 2 % 18446744073709551616, (cOut t k).2)) := Lib.hid rfl
                obtain ⟨s, hs⟩ : ∃ s, s = ((cOut t k).1 * 2 % 18446744073709551616, (cOut t k).2) := ⟨_, rfl⟩
                have e1 : (cOut t k).1 * 2 % 18446744073709551616 = s.1 := by rw [hs]
                have e2 : (cOut t k).2 = s.2 := by rw [hs]
                rw [e1] at hm
                rw [e2] at h
                rw [← hs] at HS
                clear hs e1 e2
                generalize (cOut t k).1 = c0 at hm ⊢
                go_wp2_with fail
                clear hm
                go_loopw [8, 48] (fun v8 v48 wr => ∃ i : Nat, v8 = .int .u64 (cIn t k i s).1 ∧ v48 = .int .i64 i ∧ i ≤ 256 ∧ St noB w wr [blkT cb (tabV .u64 (cIn t k i s).2) 25, blkT lb T 27]) (fun _ v48 _ => 256 - (intOf v48).toNat)
                case atStart => exact ⟨0, rfl, rfl, by omega, h⟩
                case round =>
                  clear h
                  obtain ⟨i, rfl, rfl, hi, h⟩ := hrel
                  by_cases hli : i < 256
                  · have hl2 : (i : Int) < 256 := by omega
                    have k1 := cell_of_heap h.swap.blk i
                    rw [hT0 i hli] at k1
                    by_cases e : t i = k + 1
                    · have f0 := free_of_heap h.blk i
                      have k0 := cell_of_heap h.blk i
                      rw [tabV_get _ _ _ hli] at k0
                      have h3 := h.set i (.int .u64 ((cIn t k i s).1 : Nat))
                      rw [tabV_set _ _ _ _ hli] at h3
                      have E1 : cIn t k (i + 1) s = (((cIn t k i s).1 + 1) % 18446744073709551616, upd (cIn t k i s).2 i (cIn t k i s).1) := by rw [cIn, if_pos e]
                      have E2 : (cIn t k (i + 1) s).1 = ((cIn t k i s).1 + 1) % 18446744073709551616 := by rw [E1]
                      have E3 : (cIn t k (i + 1) s).2 = upd (cIn t k i s).2 i (cIn t k i s).1 := by rw [E1]
                      rw [← E3] at h3
                      have hw : IntKind.u64.wrap (((cIn t k i s).1 : Int) + 1) = ((cIn t k (i + 1) s).1 : Nat) := by rw [E2, IntKind.wrap_u64]; omega
                      clear h E1 E2 E3
                      generalize (cIn t k i s).1 = p at hw f0 h3 ⊢
                      generalize (cIn t k i s).2 i = p0 at k0
                      rw [e] at k1
                      clear e
                      go_wp2_with fail
                      go_roundw
                      case rel => first | exact ⟨i + 1, rfl, by go_num, by omega, h3⟩ | ((repeat apply Exists.intro); exact ⟨⟨i + 1, rfl, by go_num, by omega, h3⟩, rfl⟩)
                      case measure => first | (simp [intOf]; done) | (simp [intOf]; omega)
                    · have e2 : ¬ ((t i : Int) = (k : Int) + 1) := by omega
                      have E1 : cIn t k (i + 1) s = cIn t k i s := by rw [cIn, if_neg e]
                      rw [← E1] at h ⊢
                      clear e E1
                      generalize t i = x at k1 e2
                      go_wp2_with fail
                      go_roundw
                      case rel => first | exact ⟨i + 1, rfl, by go_num, by omega, h⟩ | ((repeat apply Exists.intro); exact ⟨⟨i + 1, rfl, by go_num, by omega, h⟩, rfl⟩)
                      case measure => first | (simp [intOf]; done) | (simp [intOf]; omega)
                  · obtain rfl : i = 256 := by omega
                    have hl2 : ¬ (256 : Int) < 256 := by omega
                    rw [← HS.out] at h ⊢
                    go_wp2_with fail
                    go_roundw
                    case rel => first | exact ⟨k + 1, rfl, by go_num, by omega, h⟩ | ((repeat apply Exists.intro); exact ⟨⟨k + 1, rfl, by go_num, by omega, h⟩, rfl⟩)
                    case measure => first | (simp [intOf]; done) | (simp [intOf]; omega)
              · have hl1 : ¬ (k : Int) < 56 := by omega
                have hb := Lib.hid h.blk
                have HF : Hid (codT t = (cOut t k).2) := Lib.hid (by obtain rfl : k = 56 := by omega
                                                                     unfold codT; rw [if_pos HE0.out])
                clear hlt hk
                have HX := Lib.hid h.ends
                clear h
                rw [← HF.out] at hb
                clear HF
                obtain ⟨ct, hct⟩ : ∃ ct, ct = codT t := ⟨_, rfl⟩
                rw [← hct] at hb
                have HC := Lib.hid hct
                clear hct
                generalize (cOut t k).1 = co
                go_wp2_with (first
                  | (refine wpList_load_row rfl _ _ rfl cb rfl 25 (tabV .u64 ct) (0, 0) (.array 256 24) hb.out Try.underlying25 rfl (size64 _) ?_)
                  | (refine wpList_store_row rfl _ _ _ rfl cb (tabV .u64 ct) rfl rfl 25 (tabV .u64 ct) hb.out (size64 _) rfl (tabV_one _ _) ?_; rw [setRow_self _ _ _ _ _ hb.out]))
                rw [← HC.out, HE0.out]
                refine bodyPost_ret_by (results_pairH rfl _ _ cb 25 _ (0, 0) (.array 256 24) rfl hb.out Try.underlying25 rfl (size64 _)) rfl ?_
                exact ⟨rfl, HX.out⟩
          · have b2 : ¬ (q : Int) = 72057594037927936 := by omega
            have b3 : (c : Int) = 1 := by omega
            have b4 : (q : Int) = 36028797018963968 := by omega
            clear hA hcn c0 c1 b1
            go_wp2_with fail
            clear hs
            go_loopw [8, 43] (fun v8 v43 wr => ∃ k : Nat, v8 = .int .u64 (cOut t k).1 ∧ v43 = .int .u8 k ∧ k ≤ 56 ∧ St noB w wr [blkT cb (tabV .u64 (cOut t k).2) 25, blkT lb T 27]) (fun _ v43 _ => 56 - (intOf v43).toNat)
            case atStart => exact ⟨0, rfl, rfl, by omega, h2⟩
            case round =>
              clear h2
              obtain ⟨k, rfl, rfl, hk, h⟩ := hrel
              by_cases hlt : k < 56
              · have hl1 : (k : Int) < 56 := by omega
                have hm : IntKind.u64.wrap (((cOut t k).1 : Int) * 2) = (((cOut t k).1 * 2 % 18446744073709551616 : Nat) : Int) := by rw [IntKind.wrap_u64]; omega
                have hk8 : IntKind.u8.wrap ((k : Int) + 1) = (k : Int) + 1 := by rw [IntKind.wrap_u8]; omega
                have HS : Hid (cOut t (k + 1) = cIn t k 256 ((cOut t k).1 * 2 % 18446744073709551616, (cOut t k).2)) := Lib.hid rfl
                obtain ⟨s, hs⟩ : ∃ s, s = ((cOut t k).1 * 2 % 18446744073709551616, (cOut t k).2) := ⟨_, rfl⟩
                have e1 : (cOut t k).1 * 2 % 18446744073709551616 = s.1 := by rw [hs]
                have e2 : (cOut t k).2 = s.2 := by rw [hs]
                rw [e1] at hm
                rw [e2] at h
                rw [← hs] at HS
                clear hs e1 e2
                generalize (cOut t k).1 = c0 at hm ⊢
                go_wp2_with fail
                clear hm
                go_loopw [8, 48] (fun v8 v48 wr => ∃ i : Nat, v8 = .int .u64 (cIn t k i s).1 ∧ v48 = .int .i64 i ∧ i ≤ 256 ∧ St noB w wr [blkT cb (tabV .u64 (cIn t k i s).2) 25, blkT lb T 27]) (fun _ v48 _ => 256 - (intOf v48).toNat)
                case atStart => exact ⟨0, rfl, rfl, by omega, h⟩
                case round =>
                  clear h
                  obtain ⟨i, rfl, rfl, hi, h⟩ := hrel
                  by_cases hli : i < 256
                  · have hl2 : (i : Int) < 256 := by omega
                    have k1 := cell_of_heap h.swap.blk i
                    rw [hT0 i hli] at k1
                    by_cases e : t i = k + 1
                    · have f0 := free_of_heap h.blk i
                      have k0 := cell_of_heap h.blk i
                      rw [tabV_get _ _ _ hli] at k0
                      have h3 := h.set i (.int .u64 ((cIn t k i s).1 : Nat))
                      rw [tabV_set _ _ _ _ hli] at h3
                      have E1 : cIn t k (i + 1) s = (((cIn t k i s).1 + 1) % 18446744073709551616, upd (cIn t k i s).2 i (cIn t k i s).1) := by rw [cIn, if_pos e]
                      have E2 : (cIn t k (i + 1) s).1 = ((cIn t k i s).1 + 1) % 18446744073709551616 := by rw [E1]
                      have E3 : (cIn t k (i + 1) s).2 = upd (cIn t k i s).2 i (cIn t k i s).1 := by rw [E1]
                      rw [← E3] at h3
                      have hw : IntKind.u64.wrap (((cIn t k i s).1 : Int) + 1) = ((cIn t k (i + 1) s).1 : Nat) := by rw [E2, IntKind.wrap_u64]; omega
                      clear h E1 E2 E3
                      generalize (cIn t k i s).1 = p at hw f0 h3 ⊢
                      generalize (cIn t k i s).2 i = p0 at k0
                      rw [e] at k1
                      clear e
                      go_wp2_with fail
                      go_roundw
                      case rel => first | exact ⟨i + 1, rfl, by go_num, by omega, h3⟩ | ((repeat apply Exists.intro); exact ⟨⟨i + 1, rfl, by go_num, by omega, h3⟩, rfl⟩)
                      case measure => first | (simp [intOf]; done) | (simp [intOf]; omega)
                    · have e2 : ¬ ((t i : Int) = (k : Int) + 1) := by omega
                      have E1 : cIn t k (i + 1) s = cIn t k i s := by rw [cIn, if_neg e]
                      rw [← E1] at h ⊢
                      clear e E1
                      generalize t i = x at k1 e2
                      go_wp2_with fail
                      go_roundw
                      case rel => first | exact ⟨i + 1, rfl, by go_num, by omega, h⟩ | ((repeat apply Exists.intro); exact ⟨⟨i + 1, rfl, by go_num, by omega, h⟩, rfl⟩)
                      case measure => first | (simp [intOf]; done) | (simp [intOf]; omega)
                  · obtain rfl : i = 256 := by omega
                    have hl2 : ¬ (256 : Int) < 256 := by omega
                    rw [← HS.out] at h ⊢
                    go_wp2_with fail
                    go_roundw
                    case rel => first | exact ⟨k + 1, rfl, by go_num, by omega, h⟩ | ((repeat apply Exists.intro); exact ⟨⟨k + 1, rfl, by go_num, by omega, h⟩, rfl⟩)
                    case measure => first | (simp [intOf]; done) | (simp [intOf]; omega)
              · have hl1 : ¬ (k : Int) < 56 := by omega
                have hb := Lib.hid h.blk
                have HF : Hid (codT t = (cOut t k).2) := Lib.hid (by obtain rfl : k = 56 := by omega
                                                                     unfold codT; rw [if_pos HE0.out])
                clear hlt hk
                have HX := Lib.hid h.ends
                clear h
                rw [← HF.out] at hb
                clear HF
                obtain ⟨ct, hct⟩ : ∃ ct, ct = codT t := ⟨_, rfl⟩
                rw [← hct] at hb
                have HC := Lib.hid hct
                clear hct
                generalize (cOut t k).1 = co
                go_wp2_with (first
                  | (refine wpList_load_row rfl _ _ rfl cb rfl 25 (tabV .u64 ct) (0, 0) (.array 256 24) hb.out Try.underlying25 rfl (size64 _) ?_)
                  | (refine wpList_store_row rfl _ _ _ rfl cb (tabV .u64 ct) rfl rfl 25 (tabV .u64 ct) hb.out (size64 _) rfl (tabV_one _ _) ?_; rw [setRow_self _ _ _ _ _ hb.out]))
                rw [← HC.out, HE0.out]
                refine bodyPost_ret_by (results_pairH rfl _ _ cb 25 _ (0, 0) (.array 256 24) rfl hb.out Try.underlying25 rfl (size64 _)) rfl ?_
                exact ⟨rfl, HX.out⟩
end Go.Proofs.Ytclhmlgbhlmekaa
