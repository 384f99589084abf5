/- CrcOther, CrcLinear: the walks. -/
import Derived.Test.YtebpcknloakjfaaLaws
import Derived.Test.YtebpcknloakjfaaBytes
namespace Go.Proofs.Ytebpcknloakjfaa
open Go.RowKit
set_option linter.unusedVariables false
set_option linter.unusedSimpArgs false

def lcg (n : Nat) : Nat → Nat
  | 0 => n
  | i + 1 => (lcg n i * 1664525 + 1013904223) % 4294967296
theorem lcg_lt (n : Nat) (h : n < 4294967296) : ∀ i, lcg n i < 4294967296
  | 0 => h
  | i + 1 => Nat.mod_lt _ (by omega)
def tabL (n i k : Nat) : Nat := if k < i then lcg n (k + 1) else 0
theorem tabL_lt (n i k : Nat) (h : n < 4294967296) : tabL n i k < 4294967296 := by
  unfold tabL; split
  · exact lcg_lt n h _
  · omega

set_option maxRecDepth 20000 in
set_option maxHeartbeats 1000000 in
theorem crcOther_walk (n : Nat) (s m : ByteArray) (hn : n < 4294967296) (hs0 : s.size ≤ 140737488351232) (hm0 : m.size ≤ 140737488351232) (w : World) :
    Calls Try.prog 5 #[.int .u32 n, .string s, .string m] w fun e w' => e = .returned (.bool true) ∧ Ext w w' := by
  have hs : s.size ≤ maxLen := by unfold maxLen; omega
  have hm : m.size ≤ maxLen := by unfold maxLen; omega
  by_cases h : s.size + m.size ≤ 500
  · have hz := zero23
    go_enter Try.func5, Try.ntmps5
    go_wp2_with (first
      | (go_at_call 9; refine (awake_any _).mono ?_; rintro e w1 ⟨rfl, hx1⟩))
    go_loopw [0, 20] (fun vn vi wr => ∃ i : Nat, i ≤ 256 ∧ vi = .int .i64 i ∧ vn = .int .u32 (lcg n i : Nat) ∧ Ext w wr ∧ w1.heap.size < wr.heap.size ∧ Hid (wr.heap[w1.heap.size]? = some (.cells (tabV (tabL n i)) 23 (0, 0)))) (fun _ vi _ => 256 - (intOf vi).toNat)
    case atStart =>
      exact ⟨0, by omega, rfl, rfl, hx1.alloc _, by simp, Lib.hid (heap_alloc_self _ _)⟩
    case round =>
      obtain ⟨i, hi, rfl, rfl, hx, hsz, hh⟩ := hrel
      clear hz
      by_cases hlt : i < 256
      · have hf := free_of_heap hh.out i
        have hc : wr.cell? ⟨w1.heap.size, i, none⟩ = some (.int .u32 (tabL n i i : Nat)) := by rw [cell_of_heap hh.out, tabV_get _ _ hlt]
        have hset := heap_setCell hh.out i (.int .u32 (lcg n (i + 1) : Nat))
        rw [tabV_set, tabV_congr (u := tabL n (i + 1)) (fun k _ => by unfold tabL; by_cases h : k = i <;> simp [h] <;> (split <;> split <;> first | omega | rfl))] at hset
        have hset2 := Lib.hid hset; clear hset
        have hw1 := hx1.size
        have hll := lcg_lt n hn i
        obtain ⟨q, hq⟩ : ∃ q, q = lcg n (i + 1) := ⟨_, rfl⟩
        have e1 : ((lcg n i : Int) * 1664525 + 1013904223) % 4294967296 = (q : Int) := by rw [hq, lcg]; omega
        have e2 : ((lcg n i : Int) * 1664525 % 4294967296 + 1013904223) % 4294967296 = (q : Int) := by rw [hq, lcg]; omega
        rw [← hq] at hset2
        have hQ := Lib.hid hq; clear hq
        go_wp2
        go_roundw
        case rel => exact ⟨i + 1, by omega, by go_num, iv (e2.trans (congrArg (Nat.cast : Nat → Int) hQ.out)), hx.setCell (.inl hw1) _, by simpa using hsz, hset2⟩
        case measure => simp [intOf]; omega
      · obtain rfl : i = 256 := by omega
        have q1 := Lib.hid (show cmore (tabL n 256) (cmore (tabL n 256) 0 s.data.toList) m.data.toList = cmore (tabL n 256) 0 (s.data.toList ++ m.data.toList) from cmore_append _ _ _ _)
        go_wp2
        have q2 := q1.out
        (refine wp_region_after (by kernel_rfl) (by kernel_rfl) ?_; (repeat (first | go_big_quiet_skip | (go_big_quiet_want; first | (refine quiet_load_row _ _ rfl w1.heap.size rfl 23 (tabV (tabL n 256)) (0, 0) (.array 256 22) hh.out Try.underlying23 rfl (size23 _) ?_; simp only [Act.put, List.setIfInBounds_toArray, List.set_cons_succ, List.set_cons_zero]; go_big_quiet_on) | (go_big_quiet_op; first | go_big_quiet_on | (apply Exists.intro; refine ⟨fun _ => ?_, ?_⟩; (· (first | (go_at_call 11; exact Calls.after (sum_any _ (fun i _ => tabL_lt n 256 i hn) _ (by first | exact hs | exact hm | (simp only [ByteArray.size_append, maxLen]; omega)) _)) | (go_at_call 13; exact Calls.after (by_any _ (fun i _ => tabL_lt n 256 i hn) _ (by first | exact hs | exact hm) _)) | (go_at_call 14; exact Calls.after (more_any _ (fun i _ => tabL_lt n 256 i hn) _ (by exact cmore_lt _ (fun i _ => tabL_lt n 256 i hn) (by decide) _) _ (by first | exact hs | exact hm) _)))); go_big_quiet_on))))); refine wpQuiet_nil ?_; rintro _ ⟨y, rfl⟩)
        go_wp2
        go_ret
        refine ⟨rfl, ?_⟩
        (repeat (first | exact Mut.refl _ _ | assumption | apply Mut.alloc | apply Mut.drew | refine Mut.trans ?_ (After.ext _) | refine Mut.trans ?_ (by assumption)))
  · go_enter Try.func5, Try.ntmps5
    go_wp2_with (go_at_call 9; refine (awake_any _).mono ?_; rintro e w1 ⟨rfl, hx⟩)
    go_ret
    refine ⟨rfl, ?_⟩
    (repeat (first | exact Mut.refl _ _ | assumption | apply Mut.alloc | apply Mut.drew | refine Mut.trans ?_ (After.ext _) | refine Mut.trans ?_ (by assumption)))

theorem info5 : (Try.prog.info? 5).map (fun i => (i.zero, i.size, i.bytes)) = some (some (.int .u8 0), 1, 1) := by kernel_rfl

def XorsTo (a b c : ByteArray) (i : Nat) (l : List UInt8) : Prop := ∀ j, j < i → l.getD j 0 = a.data.toList.getD j 0 ^^^ b.data.toList.getD j 0 ^^^ c.data.toList.getD j 0
theorem getD_data (s : ByteArray) (i : Nat) (h : i < s.size) : s.data.toList.getD i 0 = s[i] := by
  rw [List.getD_eq_getElem?_getD, List.getElem?_eq_getElem (by simpa using h)]; rfl
theorem XorsTo.next {a b c : ByteArray} {i : Nat} {l : List UInt8} (h : XorsTo a b c i l) (ha : i < a.size) (hb : i < b.size) (hc : i < c.size) (hl : i < l.length) : XorsTo a b c (i + 1) (l.set i (a[i] ^^^ b[i] ^^^ c[i])) := by
  intro j hj
  by_cases e : j = i
  · subst e
    rw [getD_data a j ha, getD_data b j hb, getD_data c j hc]
    simp [List.getD_eq_getElem?_getD, hl]
  · have := h j (by omega)
    rw [← this]
    simp [List.getD_eq_getElem?_getD, List.getElem?_set, Ne.symm e]

set_option maxRecDepth 20000 in
set_option maxHeartbeats 1000000 in
theorem crcLinear_walk (a b c : ByteArray) (ha0 : a.size ≤ 140737488351232) (hb0 : b.size ≤ 140737488351232) (hc0 : c.size ≤ 140737488351232) (w : World) :
    Calls Try.prog 7 #[.string a, .string b, .string c] w fun e w' => e = .returned (.bool true) ∧ Ext w w' := by
  have ha : a.size ≤ maxLen := by unfold maxLen; omega
  have hb : b.size ≤ maxLen := by unfold maxLen; omega
  have hc : c.size ≤ maxLen := by unfold maxLen; omega
  by_cases h1 : a.size = b.size
  · by_cases h2 : b.size = c.size
    · by_cases h3 : a.size ≤ 1000
      · obtain ⟨n, hna⟩ : ∃ n, a.size = n := ⟨_, rfl⟩
        have hnb : b.size = n := by omega
        have hnc : c.size = n := by omega
        have hnn : n ≤ 1000 := by omega
        clear h1 h2 h3 ha0 hb0 hc0
        obtain ⟨i0, hi, hz0, hz1, hz2⟩ := info_parts info5
        have hmk : ∀ w : World, (Instr.makeSlice 34 (.int .i64 (n : Int)) (.int .i64 (n : Int))).run Try.prog w = .ok (.slice (some ⟨w.heap.size, 0, none⟩) n n) (w.alloc (.cells (bytesV (List.replicate n 0)).toArray 5)) := by
          intro w
          rw [run_make w 34 5 i0 _ Try.underlying34 hi hz0 .i64 .i64 n n (by omega) (by omega) (by rw [hz2]; omega) (by omega), hz1]
          simp only [Value.cells, Nat.mul_one, Int.toNat_natCast, zeros_u8]
        have hz := zero23
        go_enter Try.func7, Try.ntmps7
        go_wp2_with (first
          | (go_at_call 9; refine (awake_any _).mono ?_; rintro e w1 ⟨rfl, hx1⟩))
        clear hmk hz hi hz0 hz1 hz2
        go_loopw [37] (fun vi wr => ∃ (i : Nat) (l : List UInt8), i ≤ n ∧ l.length = n ∧ vi = .int .i64 i ∧ Ext w wr ∧ w1.heap.size < wr.heap.size ∧ Hid (wr.heap[w1.heap.size]? = some (.cells (bytesV l).toArray 5 (0, 0))) ∧ Hid (XorsTo a b c i l)) (fun vi _ => n - (intOf vi).toNat)
        case atStart =>
          exact ⟨0, _, by omega, by simp, rfl, hx1.alloc _, by simp, Lib.hid (heap_alloc_self _ _), Lib.hid (fun j hj => by omega)⟩
        case round =>
          obtain ⟨i, l, hi, hl, rfl, hx, hsz, hh, hX⟩ := hrel
          by_cases hlt : i < n
          · have hf := free_of_heap hh.out i
            have hcl := cells_of_row hh.out i (by omega)
            have ia : i < a.size := by omega
            have ib : i < b.size := by omega
            have ic : i < c.size := by omega
            have e1 : bits .xor .u8 (a[i].toNat : Int) (b[i].toNat : Int) = ((a[i].toNat ^^^ b[i].toNat : Nat) : Int) := u8_xor_nat _ _ a[i].toNat_lt b[i].toNat_lt
            have e2 : bits .xor .u8 ((a[i].toNat ^^^ b[i].toNat : Nat) : Int) (c[i].toNat : Int) = (((a[i] ^^^ b[i] ^^^ c[i]).toNat : Nat) : Int) := by
              rw [u8_xor_nat _ _ (Nat.xor_lt_two_pow (n := 8) a[i].toNat_lt b[i].toNat_lt) c[i].toNat_lt]; simp
            have hX2 := Lib.hid (hX.out.next ia ib ic (by omega))
            have hset := heap_setCell hh.out i (bv (a[i] ^^^ b[i] ^^^ c[i]))
            rw [show (bytesV l).toArray.setIfInBounds i (bv (a[i] ^^^ b[i] ^^^ c[i])) = (bytesV (l.set i (a[i] ^^^ b[i] ^^^ c[i]))).toArray by rw [← bytesV_set]; simp,
              show bv (a[i] ^^^ b[i] ^^^ c[i]) = .int .u8 ((a[i].toNat ^^^ b[i].toNat ^^^ c[i].toNat : Nat) : Int) by simp [bv]] at hset
            have hset2 := Lib.hid hset; clear hset
            unfold bv at hcl
            go_wp2
            go_region
            all_goals go_wp2
            all_goals go_roundw
            case rel => exact ⟨i + 1, _, by omega, by simpa using hl, by go_num, (hx.setCell (.inl hx1.size) _).drew, by simpa using hsz, hset2, hX2⟩
            case measure => simp [intOf]; omega
          · obtain rfl : i = n := by omega
            have hrow := Lib.hid (cells_of_row hh.out)
            have hz := zero23
            have hcv : ∀ x : World, Ext wr x → (convert 34 9 (.slice (some ⟨w1.heap.size, 0, none⟩) i i)).run Try.prog x = .ok (.string ⟨l.toArray⟩) x := fun x hxx =>
              run_string_of_row x 34 5 Try.underlying34 Try.underlying5 w1.heap.size i i l hl (fun j hj => hxx.cell (hrow.out j (by omega))) 9 Try.underlying9
            have HCV := Lib.hid hcv; clear hcv
            have hfin : cmore ent 0 a.data.toList ^^^ cmore ent 0 b.data.toList ^^^ cmore ent 0 c.data.toList ^^^ cmore ent 0 l = 0 := by
              unfold cmore
              have := cfold_xor a.data.toList b.data.toList c.data.toList l ones ones ones (by simpa using hna.trans hnb.symm) (by simpa using hnb.trans hnc.symm) (by simpa using hl.trans hna.symm) (fun j hj => by
                rw [hX.out j (by have : a.data.toList.length = i := by simpa using hna
                                 omega)]
                simp)
              simp only [Nat.zero_xor, Nat.xor_self] at this ⊢
              rw [this]
              generalize cfold ent ones a.data.toList = x
              generalize cfold ent ones b.data.toList = y
              generalize cfold ent ones c.data.toList = z
              apply Nat.eq_of_testBit_eq; intro k
              simp only [Nat.testBit_xor, Nat.zero_testBit]
              cases x.testBit k <;> cases y.testBit k <;> cases z.testBit k <;> cases ones.testBit k <;> rfl
            have HFIN := Lib.hid hfin; clear hfin
            go_wp2_with (first
              | (go_at_call 8; refine (table_any _).mono ?_; rintro e w2 ⟨rfl, hx2⟩)
              | (refine wpList_store_row rfl _ _ _ rfl w2.heap.size (tabV ent) rfl rfl 23 (tabV (fun _ => 0)) (heap_alloc_self _ _) (size23 _) (by rw [tabV_size, tabV_size]) (tabV_one _) ?_; rw [setRow_alloc_self]))
            have hrow2 := Lib.hid (heap_alloc_self w2 (.cells (tabV ent) 23))
            clear hz; simp only [Act.put, List.setIfInBounds_toArray, List.set_cons_succ, List.set_cons_zero]
            have hcv : ∀ y : After (w2.alloc (.cells (tabV ent) 23)), (convert 34 9 (.slice (some ⟨w1.heap.size, 0, none⟩) i i)).run Try.prog y.w = .ok (.string ⟨l.toArray⟩) y.w := fun y => HCV.out y.w ((hx2.alloc _).trans y.ext)
            have lt := fun (x : List UInt8) => cmore_lt ent ent_all (n := 0) (by decide) x
            have x1 := u32_xor_nat _ _ (lt a.data.toList) (lt b.data.toList)
            have x2 := u32_xor_nat _ _ (xor_lt32 (lt a.data.toList) (lt b.data.toList)) (lt c.data.toList)
            have x3 := u32_xor_nat _ _ (xor_lt32 (xor_lt32 (lt a.data.toList) (lt b.data.toList)) (lt c.data.toList)) (lt l)
            have x4 := HFIN.out
            have LT := Lib.hid lt; clear lt
            (refine wp_region_after (by kernel_rfl) (by kernel_rfl) ?_; (repeat (first | go_big_quiet_skip | (go_big_quiet_want; first | (refine quiet_load_row _ _ rfl w2.heap.size rfl 23 (tabV ent) (0, 0) (.array 256 22) hrow2.out Try.underlying23 rfl (size23 _) ?_; simp only [Act.put, List.setIfInBounds_toArray, List.set_cons_succ, List.set_cons_zero]; go_big_quiet_on) | (go_big_quiet_op; first | go_big_quiet_on | (apply Exists.intro; refine ⟨fun _ => ?_, ?_⟩; (· (first | (go_at_call 11; exact Calls.after (sum_any ent ent_all _ (by first | exact ha | exact hb | exact hc | (show l.toArray.size ≤ maxLen; simp only [List.size_toArray, hl, maxLen]; omega)) _)))); go_big_quiet_on))))); refine wpQuiet_nil ?_; rintro _ ⟨y, rfl⟩)
            go_wp2
            go_ret
            refine ⟨rfl, ?_⟩
            (repeat (first | exact Mut.refl _ _ | assumption | apply Mut.alloc | apply Mut.drew | refine Mut.trans ?_ (After.ext _) | refine Mut.trans ?_ (by assumption)))
      · go_enter Try.func7, Try.ntmps7
        go_wp2_with (go_at_call 9; refine (awake_any _).mono ?_; rintro e w1 ⟨rfl, hx⟩)
        go_ret
        refine ⟨rfl, ?_⟩
        (repeat (first | exact Mut.refl _ _ | assumption | apply Mut.alloc | apply Mut.drew | refine Mut.trans ?_ (After.ext _) | refine Mut.trans ?_ (by assumption)))
    · go_enter Try.func7, Try.ntmps7
      go_wp2_with (go_at_call 9; refine (awake_any _).mono ?_; rintro e w1 ⟨rfl, hx⟩)
      go_ret
      refine ⟨rfl, ?_⟩
      (repeat (first | exact Mut.refl _ _ | assumption | apply Mut.alloc | apply Mut.drew | refine Mut.trans ?_ (After.ext _) | refine Mut.trans ?_ (by assumption)))
  · go_enter Try.func7, Try.ntmps7
    go_wp2_with (go_at_call 9; refine (awake_any _).mono ?_; rintro e w1 ⟨rfl, hx⟩)
    go_ret
    refine ⟨rfl, ?_⟩
    (repeat (first | exact Mut.refl _ _ | assumption | apply Mut.alloc | apply Mut.drew | refine Mut.trans ?_ (After.ext _) | refine Mut.trans ?_ (by assumption)))
end Go.Proofs.Ytebpcknloakjfaa
