/- Layer 7's laws: HuffCodes. -/
import Derived.Test.YtclhmlgbhlmekaaHh
import Derived.Test.YtclhmlgbhlmekaaHRefC
import Derived.Test.YtclhmlgbhlmekaaHEqArr
namespace Go.Proofs.Ytclhmlgbhlmekaa
open Go.RowKit
set_option linter.unusedVariables false
set_option linter.unusedSimpArgs false
set_option linter.unusedSectionVars false
theorem one_code (t : Nat → Nat) : ∀ n, (∀ i, i < n → t i ≤ 56) → (cntT t n = 0 → sumT t n = 0 ∧ oneT t n = 0) ∧ (cntT t n = 1 → (sumT t n = 36028797018963968 ↔ oneT t n = 1))
  | 0, _ => ⟨fun _ => ⟨rfl, rfl⟩, fun h => by cases h⟩
  | i + 1, h => by
    obtain ⟨h1, h2⟩ := one_code t i (fun j hj => h j (by omega))
    have h3 := h i (by omega)
    rw [cntT, sumT, oneT]
    by_cases h0 : 0 < t i
    · rw [if_pos h0, if_pos h0]
      refine ⟨fun e => by omega, fun e => ?_⟩
      obtain ⟨e1, e2⟩ := h1 (by omega)
      rw [e1, e2]
      by_cases h4 : t i = 1
      · rw [if_pos h4, h4]; decide
      · rw [if_neg h4]
        have h5 : 2 ^ (56 - t i) ≤ 2 ^ 54 := Nat.pow_le_pow_right (by omega) (by omega)
        have h6 : (2 : Nat) ^ 54 = 18014398509481984 := rfl
        constructor
        · intro e; omega
        · intro e; omega
    · rw [if_neg h0, if_neg h0, if_neg (by omega)]
      exact ⟨h1, h2⟩
theorem codE_whole {t : Nat → Nat} (h : ∀ i, i < 256 → t i ≤ 56) : codE t = if wholeP t = true then 0 else 3 := by
  have hg : greatT t = false := by
    unfold greatT
    rw [List.any_eq_false]
    intro i hi
    have := h i (List.mem_range.1 hi)
    simpa using this
  obtain ⟨h1, h2⟩ := one_code t 256 h
  unfold codE wholeP
  rw [hg, if_neg (by decide)]
  simp only [Bool.or_eq_true, Bool.and_eq_true, decide_eq_true_eq]
  generalize cntT t 256 = a at *
  generalize sumT t 256 = b at *
  generalize oneT t 256 = c at *
  by_cases e1 : a = 0
  · rw [if_neg (by omega), if_pos (by omega)]
  · by_cases e2 : b = 72057594037927936
    · rw [if_neg (by omega), if_pos (by omega)]
    · by_cases e3 : a = 1
      · have := h2 e3
        by_cases e4 : c = 1
        · rw [if_neg (by omega), if_pos (by omega)]
        · rw [if_pos (by omega), if_neg (by omega)]
      · rw [if_pos (by omega), if_neg (by omega)]
def tabA (l : List Nat) (k : Nat) : Nat → Nat := fun i => if i < k then l.getD i 0 else 0
theorem tabA_succ (l : List Nat) (k : Nat) : tabA l (k + 1) = upd (tabA l k) k (l.getD k 0) := by
  funext i
  unfold upd tabA
  by_cases e : i = k
  · subst e; simp
  · rw [if_neg e]
    by_cases h : i < k
    · rw [if_pos h, if_pos (by omega)]
    · rw [if_neg h, if_neg (by omega)]
def greatF (l : List Nat) : Nat → Bool
  | 0 => false
  | i + 1 => greatF l i || decide (56 < l.getD i 0)
theorem greatF_iff (l : List Nat) : ∀ i, greatF l i = true ↔ ∃ j, j < i ∧ 56 < l.getD j 0
  | 0 => ⟨fun h => Bool.noConfusion h, fun ⟨j, h, _⟩ => by omega⟩
  | i + 1 => by
    rw [greatF, Bool.or_eq_true, greatF_iff l i, decide_eq_true_eq]
    constructor
    · rintro (⟨j, h1, h2⟩ | h)
      · exact ⟨j, by omega, h2⟩
      · exact ⟨i, by omega, h⟩
    · rintro ⟨j, h1, h2⟩
      by_cases e : j = i
      · subst e; exact .inr h2
      · exact .inl ⟨j, by omega, h2⟩
theorem greatT_tabA (l : List Nat) (h : l.length ≤ 256) : greatT (tabA l l.length) = greatF l l.length := by
  rw [Bool.eq_iff_iff, greatF_iff]
  unfold greatT
  rw [List.any_eq_true]
  constructor
  · rintro ⟨i, h1, h2⟩
    unfold tabA at h2
    rw [decide_eq_true_eq] at h2
    by_cases e : i < l.length
    · rw [if_pos e] at h2; exact ⟨i, e, h2⟩
    · rw [if_neg e] at h2; omega
  · rintro ⟨j, h1, h2⟩
    exact ⟨j, List.mem_range.2 (by omega), by unfold tabA; rw [if_pos h1]; exact decide_eq_true h2⟩
set_option maxRecDepth 20000 in
set_option maxHeartbeats 2000000 in
theorem huffCodes_walk (A : Option Addr) (ca : Nat) (l : List Nat) (w : World) (ra : ArgRow (repU .u8 256) 1 w A l.length l) (hpa : l.length ≤ 9223372036854775807) :
    Calls Try.prog 4 #[.slice A l.length ca] w fun e w' => e = .returned (.bool true) ∧ Ext w w' := by
  have HA := Lib.hid hawake_any
  by_cases h0 : l.length ≤ 256
  · obtain ⟨m, hm⟩ : ∃ m, l.length = m := ⟨_, rfl⟩
    have hg0 := greatT_tabA l h0
    rw [hm] at ra hpa h0 hg0 ⊢
    have hn : ¬ (256 : Int) < (m : Int) := by omega
    have hz := zero8
    go_enter Try.func4, Try.ntmps4
    go_wp2_with fail
    refine (HA.out w).mono ?_
    rintro _ w1 ⟨rfl, x1⟩
    have h1 := ((St.start noB w).ext x1).alloc (tabV .u8 (fun _ => 0)) 27
    have HG0 := Lib.hid hg0
    clear x1 hm hg0
    go_wp2_with fail
    generalize w1.alloc (.cells (tabV .u8 (fun _ => 0)) 27) = w2 at h1 ⊢
    generalize w1.heap.size = tb at h1 ⊢
    have h2 : St noB w w2 [blkT tb (tabV .u8 (tabA l 0)) 27] := by
      have e : tabA l 0 = fun _ => 0 := by funext i; unfold tabA; rw [if_neg (by omega)]
      rw [e]; exact h1
    clear h1 hz
    go_loopw [4, 19] (fun v4 v19 wr => ∃ i : Nat, v4 = .bool (greatF l i) ∧ v19 = .int .i64 i ∧ i ≤ m ∧ St noB w wr [blkT tb (tabV .u8 (tabA l i)) 27]) (fun _ v19 _ => m - (intOf v19).toNat)
    case atStart => exact ⟨0, rfl, rfl, by omega, h2⟩
    case round =>
      clear h2
      obtain ⟨i, rfl, rfl, hi, h⟩ := hrel
      by_cases hlt : i < m
      · have hl1 : (i : Int) < (m : Int) := by omega
        obtain ⟨b, off, rfl, hc, hb⟩ := (ra.ext h.ends).getU i hlt
        have k0 := cell_of_heap h.blk i
        rw [tabV_get _ _ _ (by omega)] at k0
        have f0 := free_of_heap h.blk i
        have h3 := h.set i (.int .u8 ((l.getD i 0 : Nat) : Int))
        rw [tabV_set _ _ _ _ (by omega), ← tabA_succ] at h3
        have HG : Hid (greatF l (i + 1) = (greatF l i || decide (56 < l.getD i 0))) := Lib.hid rfl
        have H3 := Lib.hid h3
        clear h h3
        generalize tabA l i i = y at *
        generalize l.getD i 0 = x at *
        generalize greatF l i = g at *
        have hlx : (i : Int) < 256 := by omega
        cases g with
        | true =>
          go_wp2_with fail
          exact ⟨⟨i + 1, by rw [HG.out]; rfl, by go_num, by omega, H3.out⟩, by simp only [intOf]; omega⟩
        | false =>
          by_cases hx : 56 < x
          · have hx2 : (56 : Int) < (x : Int) := by omega
            go_wp2_with fail
            exact ⟨⟨i + 1, by rw [HG.out, decide_eq_true hx]; rfl, by go_num, by omega, H3.out⟩, by simp only [intOf]; omega⟩
          · have hx2 : ¬ (56 : Int) < (x : Int) := by omega
            go_wp2_with fail
            exact ⟨⟨i + 1, by rw [HG.out, decide_eq_false hx]; rfl, by go_num, by omega, H3.out⟩, by simp only [intOf]; omega⟩
      · obtain rfl : i = m := by omega
        have hl1 : ¬ (i : Int) < (i : Int) := by omega
        have ht8 : ∀ j, j < 256 → tabA l i j < 256 := fun j _ => by
          unfold tabA
          split
          · rename_i hj; exact ra.small j hj
          · omega
        have HC := Lib.hid (fun w => codes_any (tabA l i) ht8 w)
        have HB := Lib.hid h.blk
        have HG1 : Hid (greatT (tabA l i) = greatF l i) := HG0
        generalize tabA l i = t at *
        generalize greatF l i = g at *
        go_wp2_with (refine wpList_load_row rfl _ _ rfl tb rfl 27 (tabV .u8 t) (0, 0) (.array 256 5) HB.out Try.underlying27 rfl (size8 _) ?_)
        refine (HC.out _).mono ?_
        rintro _ w3 ⟨rfl, x3⟩
        have h4 := (h.ext x3).alloc (tabV .u64 (fun _ => 0)) 25
        have hz2 := zero64
        have hq := Lib.hid h4.blk
        have hbd : ∀ w, (Instr.build 25 #[]).run Try.prog w = .ok (.agg (tabV .u64 (fun _ => 0))) w := fun w => by kernel_rfl
        have heq0 := fun w => eql_arr64 (fun _ => 0) w
        obtain ⟨w4, hw4, h5⟩ := name_world (P := fun x => St noB w x _) (h4.row (tabV .u64 (codT t)))
        have HW4 := Lib.hid hw4
        have hc := Lib.hid h5.blk
        have HB5 := Lib.hid (h5.pull 1).blk
        have HX := Lib.hid h5.ends
        have HCT : Hid (codT t = if codE t = 0 then (cOut t 56).2 else fun _ => 0) := Lib.hid rfl
        have HCE : greatT t = true → codE t = 1 := fun h => by unfold codE; rw [if_pos h]
        have HCW : greatT t = false → (∀ i, i < 256 → t i ≤ 56) := fun h j hj => by
          rcases Nat.lt_or_ge 56 (t j) with h6 | h6
          · have : greatT t = true := by
              unfold greatT; rw [List.any_eq_true]; exact ⟨j, List.mem_range.2 hj, decide_eq_true h6⟩
            rw [this] at h; cases h
          · exact h6
        clear h h4 hw4 x3 HG0 HC
        cases hg : g with
        | true =>
          rw [hg] at HG1
          have e1 := HCE HG1.out
          have e2 : codT t = fun _ => 0 := by rw [HCT.out, e1, if_neg (by omega)]
          clear HCE HCW HCT
          rw [e2] at hc HW4 ⊢
          rw [e1]
          clear e1 e2
          go_wp2_with (first
            | (with_reducible refine (show wpList _ _ _ _ _ (World.alloc _ _) from ?_); refine wpList_store_row rfl _ _ _ rfl w3.heap.size _ rfl rfl 25 (tabV .u64 (fun _ => 0)) hq.out (size64 _) (tabV_sizes _ _ _) (tabV_one _ _) ?_; rw [HW4.out])
            | (refine wpList_load_row rfl _ _ rfl w3.heap.size rfl 25 _ (0, 0) (.array 256 24) hc.out Try.underlying25 rfl (size64 _) ?_)
            | (refine wpList_load_row rfl _ _ rfl tb rfl 27 (tabV .u8 t) (0, 0) (.array 256 5) HB5.out Try.underlying27 rfl (size8 _) ?_))
          refine wp_load_row 25 _ rfl w3.heap.size rfl 25 _ (0, 0) (.array 256 24) hc.out Try.underlying25 rfl (size64 _) ?_
          go_wp2_with fail
          go_ret
          exact ⟨rfl, HX.out⟩
        | false =>
          rw [hg] at HG1
          have h56 := HCW HG1.out
          have e1 := codE_whole h56
          have HWh := Lib.hid (fun w => rwhole_any t h56 w)
          have HRC := Lib.hid (fun w => rcodes_any t ht8 w)
          clear HCE HCW
          cases hwp : wholeP t with
          | false =>
            rw [hwp] at HWh
            rw [hwp, if_neg (by decide)] at e1
            have e2 : codT t = fun _ => 0 := by rw [HCT.out, e1, if_neg (by omega)]
            clear HCT HRC
            rw [e2] at hc HW4 ⊢
            rw [e1]
            clear e1 e2
            go_wp2_with (first
              | (with_reducible refine (show wpList _ _ _ _ _ (World.alloc _ _) from ?_); refine wpList_store_row rfl _ _ _ rfl w3.heap.size _ rfl rfl 25 (tabV .u64 (fun _ => 0)) hq.out (size64 _) (tabV_sizes _ _ _) (tabV_one _ _) ?_; rw [HW4.out])
              | (refine wpList_load_row rfl _ _ rfl w3.heap.size rfl 25 _ (0, 0) (.array 256 24) hc.out Try.underlying25 rfl (size64 _) ?_)
              | (refine wpList_load_row rfl _ _ rfl tb rfl 27 (tabV .u8 t) (0, 0) (.array 256 5) HB5.out Try.underlying27 rfl (size8 _) ?_))
            refine (HWh.out _).mono ?_
            rintro _ w5 ⟨rfl, x5⟩
            have hc5 := Lib.hid (x5.heap hc.out)
            clear hc HB5
            go_wp2_with fail
            refine wp_load_row 25 _ rfl w3.heap.size rfl 25 _ (0, 0) (.array 256 24) hc5.out Try.underlying25 rfl (size64 _) ?_
            go_wp2_with fail
            go_ret
            exact ⟨rfl, HX.out.trans x5⟩
          | true =>
            rw [hwp] at HWh
            rw [hwp, if_pos rfl] at e1
            have e2 : codT t = reC t := by rw [HCT.out, e1, if_pos rfl]; rfl
            clear HCT
            have heq1 := fun w => eql_arr64 (reC t) w
            rw [e2] at hc HW4 ⊢
            rw [e1]
            clear e1 e2
            generalize reC t = R at *
            go_wp2_with (first
              | (with_reducible refine (show wpList _ _ _ _ _ (World.alloc _ _) from ?_); refine wpList_store_row rfl _ _ _ rfl w3.heap.size _ rfl rfl 25 (tabV .u64 (fun _ => 0)) hq.out (size64 _) (tabV_sizes _ _ _) (tabV_one _ _) ?_; rw [HW4.out])
              | (refine wpList_load_row rfl _ _ rfl w3.heap.size rfl 25 _ (0, 0) (.array 256 24) hc.out Try.underlying25 rfl (size64 _) ?_)
              | (refine wpList_load_row rfl _ _ rfl tb rfl 27 (tabV .u8 t) (0, 0) (.array 256 5) HB5.out Try.underlying27 rfl (size8 _) ?_))
            refine (HWh.out _).mono ?_
            rintro _ w5 ⟨rfl, x5⟩
            have hc5 := Lib.hid (x5.heap hc.out)
            have hb5 := Lib.hid (x5.heap HB5.out)
            clear hc HB5
            go_wp2_with fail
            have hS : (fun w' : World => w'.heap[tb]? = some (.cells (tabV .u8 t) 27 (0, 0)) ∧ w'.heap[w3.heap.size]? = some (.cells (tabV .u64 R) 25 (0, 0))) w5.drew := ⟨hb5.out, hc5.out⟩
            refine wp_region_held (S := fun w' : World => w'.heap[tb]? = some (.cells (tabV .u8 t) 27 (0, 0)) ∧ w'.heap[w3.heap.size]? = some (.cells (tabV .u64 R) 25 (0, 0))) (by kernel_rfl) ?_
            change wpAnyH _ _ _ _ _ _ _ _ (World.drew _)
            refine wpAnyH_take (i := 0) (v := ?_) rfl (by kernel_rfl) (by kernel_rfl) (by kernel_rfl) (fun _ _ _ h => h) (Or.inl ⟨by rfl, ?_⟩) hS ?_
            rotate_left
            · (intro w' hS'; go_simp; try with_reducible rfl)
            refine wpAnyH_take (i := 1) (v := ?_) rfl (by kernel_rfl) (by kernel_rfl) (by kernel_rfl) (fun _ _ _ h => h) (Or.inl ⟨by rfl, ?_⟩) hS ?_
            rotate_left
            · (intro w' hS'; go_simp; try with_reducible rfl)
            refine wpAnyH_take (i := 2) (v := ?_) rfl (by kernel_rfl) (by kernel_rfl) (by kernel_rfl) (fun _ _ _ h => h) (Or.inl ⟨by rfl, ?_⟩) hS ?_
            rotate_left
            · (intro w' hS'; go_simp; try with_reducible rfl)
            refine wpAnyH_take (i := 3) (v := .agg (tabV .u64 R)) rfl (by kernel_rfl) (by kernel_rfl) (by kernel_rfl) (fun _ _ _ h => h) (Or.inl ⟨by rfl, fun w' hS' => exec_load_row 25 _ rfl w3.heap.size rfl 25 _ (0, 0) (.array 256 24) hS'.2 Try.underlying25 rfl (size64 _)⟩) hS ?_
            refine wpAnyH_take (i := 4) (v := .agg (tabV .u8 t)) rfl (by kernel_rfl) (by kernel_rfl) (by kernel_rfl) (fun _ _ _ h => h) (Or.inl ⟨by rfl, fun w' hS' => exec_load_row 27 _ rfl tb rfl 27 _ (0, 0) (.array 256 5) hS'.1 Try.underlying27 rfl (size8 _)⟩) hS ?_
            refine wpAnyH_ready (rs := [5]) (by kernel_rfl) (by simp) ?_
            refine AllReadyH.cons rfl (fun K hK => ?_) AllReadyH.nil
            go_simp
            refine (HRC.out _).mono ?_
            rintro _ w6 ⟨rfl, x6⟩
            have x7 : Ext w5 w6 := ((Mut.refl noB w5).drew).trans x6
            replace hS : (fun w' : World => w'.heap[tb]? = some (.cells (tabV .u8 t) 27 (0, 0)) ∧ w'.heap[w3.heap.size]? = some (.cells (tabV .u64 R) 25 (0, 0))) w6 := ⟨x7.heap hb5.out, x7.heap hc5.out⟩
            refine hK.out _ _ hS (fun _ => ?_)
            clear hK K
            refine wpAnyH_take (i := 6) (v := ?_) rfl (by kernel_rfl) (by kernel_rfl) (by kernel_rfl) (fun _ _ _ h => h) (Or.inl ⟨by rfl, ?_⟩) hS ?_
            rotate_left
            · (intro w' hS'; go_simp; try with_reducible rfl)
            refine wpAnyH_take (i := 7) (v := ?_) rfl (by kernel_rfl) (by kernel_rfl) (by kernel_rfl) (fun _ _ _ h => h) (Or.inl ⟨by rfl, ?_⟩) hS ?_
            rotate_left
            · (intro w' hS'; go_simp; try with_reducible rfl)
            refine wpAnyH_take (i := 8) (v := ?_) rfl (by kernel_rfl) (by kernel_rfl) (by kernel_rfl) (fun _ _ _ h => h) (Or.inl ⟨by rfl, ?_⟩) hS ?_
            rotate_left
            · (intro w' hS'; go_simp; try with_reducible rfl)
            refine wpAnyH_done (by kernel_rfl) ?_ _
            go_wp2_with fail
            go_ret
            exact ⟨rfl, (HX.out.trans x5).trans x7⟩
  · have hn : (256 : Int) < (l.length : Int) := by omega
    clear h0 ra
    generalize l.length = m at *
    go_enter Try.func4, Try.ntmps4
    go_wp2_with fail
    refine (HA.out w).mono ?_
    rintro _ w1 ⟨rfl, x1⟩
    go_wp2_with fail
    refine (HA.out w1).mono ?_
    rintro _ w2 ⟨rfl, x2⟩
    go_wp2_with fail
    go_ret
    exact ⟨rfl, x1.trans x2⟩
end Go.Proofs.Ytclhmlgbhlmekaa
