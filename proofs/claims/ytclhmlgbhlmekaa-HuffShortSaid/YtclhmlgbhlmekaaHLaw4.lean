/- Layer 7's laws: HuffShort. -/
import Derived.Test.YtclhmlgbhlmekaaHh
import Derived.Test.YtclhmlgbhlmekaaHRefC
namespace Go.Proofs.Ytclhmlgbhlmekaa
open Go.RowKit
set_option linter.unusedVariables false
set_option linter.unusedSimpArgs false
set_option linter.unusedSectionVars false
def costT (f t : Nat → Nat) : Nat → Nat
  | 0 => 0
  | i + 1 => costT f t i + f i * t i
theorem costT_leaves (f t d : Nat → Nat) : ∀ n, n ≤ 256 → (∀ i, i < n → 0 < f i → t i = d i) → costT f t n = cst f d (leavesB f n)
  | 0, _, _ => rfl
  | i + 1, hn, h => by
    have ih := costT_leaves f t d i (by omega) (fun j hj => h j (by omega))
    rw [costT, ih, leavesB]
    by_cases h0 : 0 < f i
    · rw [if_pos h0, cst_append, h i (by omega) h0]
      unfold cst
      rw [List.map_singleton, List.sum_singleton, ofNat_lt (by omega)]
    · rw [if_neg h0, show f i = 0 by omega, Nat.zero_mul]; rfl
theorem costT_zero (f : Nat → Nat) : ∀ n, costT f (fun _ => 0) n = 0
  | 0 => rfl
  | i + 1 => by rw [costT, costT_zero f i, Nat.mul_zero]
theorem costT_upd (f : Nat → Nat) (c : Nat) : ∀ n, costT f (upd (fun _ => 0) c 1) n ≤ sumF f n
  | 0 => Nat.le_refl _
  | i + 1 => by
    have := costT_upd f c i
    rw [costT, sumF]
    by_cases e : i = c
    · subst e; rw [upd_self]; omega
    · rw [upd_ne _ _ e]; omega
theorem costT_short (f : Nat → Nat) (hf : ∀ i, f i < 18446744073709551616) (hN : sumF f 256 < 18446744073709551616) : costT f (lenT f) 256 ≤ 8 * sumF f 256 := by
  rcases lens_cases f hf with ⟨h1, h2⟩ | ⟨c, h1, h2⟩ | ⟨_, d, hd⟩
  · rw [h2, costT_zero]; omega
  · have := costT_upd f c.toNat 256
    rw [h2]; omega
  · rw [costT_leaves f (lenT f) d 256 (Nat.le_refl _) (fun i hi h0 => (hd.at_leaf hi h0).1)]
    exact (hd.few hN).2
theorem pow_two_half {a b : Nat} (ha : a ≤ 254) (hb : b ≤ 254) (h : 2 ^ a + 2 ^ b = 2 ^ 255) : a = 254 ∧ b = 254 := by
  have h1 : 2 ^ a ≤ 2 ^ 254 := Nat.pow_le_pow_right (by omega) ha
  have h2 : 2 ^ b ≤ 2 ^ 254 := Nat.pow_le_pow_right (by omega) hb
  have h3 : (2 : Nat) ^ 255 = 2 ^ 254 + 2 ^ 254 := by rw [show (255 : Nat) = 254 + 1 from rfl, Nat.pow_succ, Nat.mul_two]
  have h4 : ∀ {x : Nat}, x ≤ 254 → 2 ^ x = 2 ^ 254 → x = 254 := fun {x} hx e => by
    rcases Nat.lt_or_ge x 254 with h | h
    · have := Nat.pow_lt_pow_right (show 1 < 2 by omega) h; omega
    · omega
  exact ⟨h4 ha (by omega), h4 hb (by omega)⟩
theorem len_two (a b x : UInt8) (hx : x = a ∨ x = b) : lenT (cntF [a, b, a]) x.toNat = 1 := by
  have hf : ∀ i, cntF [a, b, a] i < 18446744073709551616 := cntF_small (show 3 < 18446744073709551616 by decide)
  have hx8 := x.toNat_lt
  have hmem : ∀ c, c ∈ leavesB (cntF [a, b, a]) 256 ↔ c = a ∨ c = b := fun c => by
    have hc8 := c.toNat_lt
    rw [leavesB_mem _ 256 (Nat.le_refl _)]
    constructor
    · rintro ⟨_, h⟩
      unfold cntF at h
      rw [List.countP_pos_iff] at h
      obtain ⟨y, hy, e⟩ := h
      have e2 : y = c := UInt8.toNat_inj.1 (by simpa using e)
      subst e2
      simp at hy
      rcases hy with h | h | h
      · exact .inl h
      · exact .inr h
      · exact .inl h
    · intro h
      refine ⟨by omega, cntF_pos ?_⟩
      rcases h with rfl | rfl <;> simp
  have hnd := leavesB_nodup (cntF [a, b, a]) 256 (Nat.le_refl _)
  have hxm := (hmem x).2 hx
  rcases lens_cases _ hf with ⟨h1, h2⟩ | ⟨c, h1, h2⟩ | ⟨h2, d, hd⟩
  · rw [h1] at hxm; exact (List.not_mem_nil hxm).elim
  · rw [h1, List.mem_singleton] at hxm
    rw [h2, hxm, upd_self]
  · have hk := hd.room
    have hon := hd.on
    have hL := (hd.at_leaf (i := x.toNat) (by omega) ((leavesB_mem _ 256 (Nat.le_refl _) x).1 hxm).2).1
    rw [hL]
    clear hL hd
    generalize leavesB (cntF [a, b, a]) 256 = L at *
    rcases L with _ | ⟨p, _ | ⟨q, _ | ⟨r, L⟩⟩⟩
    · simp at h2
    · simp at h2
    · have e : krf d [p, q] = 2 ^ (255 - d p.toNat) + 2 ^ (255 - d q.toNat) := by unfold krf; simp
      rw [e] at hk
      have h3 := hon p (by simp)
      have h4 := hon q (by simp)
      obtain ⟨e1, e2⟩ := pow_two_half (by omega) (by omega) hk
      simp only [List.mem_cons, List.not_mem_nil, or_false] at hxm
      rcases hxm with rfl | rfl <;> omega
    · have p1 := (hmem p).1 (by simp)
      have q1 := (hmem q).1 (by simp)
      have r1 := (hmem r).1 (by simp)
      simp only [List.nodup_cons, List.mem_cons, not_or] at hnd
      obtain ⟨⟨n1, n2, _⟩, ⟨n3, _⟩, _⟩ := hnd
      rcases p1 with rfl | rfl <;> rcases q1 with rfl | rfl <;> rcases r1 with rfl | rfl <;> simp_all
theorem St.ownOf {S : Nat → Prop} {W w : World} {M : List Thing} {g : Nat} {l : List UInt8} (h : St S W w (blkT g (bytesV l).toArray 5 :: M)) (hl : l.length ≤ 1000) : St S W w (ownT 5 1 (.slice (some ⟨g, 0, none⟩) l.length l.length) l.length (bytesV l) :: M) := by
  refine h.tell (fun fp hf => ⟨⟨by rw [bytesV_len, Nat.mul_one], .inr ⟨g, l.length, _, rfl, Nat.zero_le _, hf.1, ?_⟩⟩, ?_⟩)
  · exact ⟨Nat.le_refl _, by unfold maxLen; omega, by rw [List.size_toArray, bytesV_len, Nat.mul_one], by rw [List.take_of_length_le (by rw [bytesV_len, Nat.mul_one]; exact Nat.le_refl _)]⟩
  · rw [hf.2]
    funext k
    show (k = g) = (some g = some k)
    simp only [Option.some.injEq, eq_comm]
theorem costT_le {f t : Nat → Nat} (ht : ∀ i, t i ≤ 255) : ∀ n, costT f t n ≤ 255 * sumF f n
  | 0 => Nat.le_refl _
  | i + 1 => by
    have h1 := costT_le (f := f) ht i
    have h2 := Nat.mul_le_mul_left (f i) (ht i)
    rw [costT, sumF]; omega
theorem sumF_mono (f : Nat → Nat) {i j : Nat} (h : i ≤ j) : sumF f i ≤ sumF f j := by
  induction j with
  | zero => rw [Nat.le_zero.1 h]; exact Nat.le_refl _
  | succ j ih =>
    by_cases e : i = j + 1
    · rw [e]; exact Nat.le_refl _
    · rw [sumF]; have := ih (by omega); omega
set_option maxRecDepth 20000 in
set_option maxHeartbeats 4000000 in
theorem huffShort_walk (s : ByteArray) (a b : Nat) (hps : s.size ≤ 140737488351232) (ha : a < 256) (hb : b < 256) (w : World) :
    Calls Try.prog 9 #[.string s, .int .u8 a, .int .u8 b] w fun e w' => e = .returned (.bool true) ∧ Ext w w' := by
  have HA := Lib.hid hawake_any
  by_cases h0 : s.size ≤ 2000
  · have hn : ¬ (2000 : Int) < (s.size : Int) := by omega
    have esz : s.data.toList.length = s.size := by simp
    have hf : ∀ i, cntF s.data.toList i < 18446744073709551616 := cntF_small (by omega)
    have HCt := Lib.hid (fun w => rcount_any s (by omega) w)
    have hsum := sumF_cnt_all s.data.toList
    rw [esz] at hsum
    have HLn := Lib.hid (fun w => lengths_any (cntF s.data.toList) hf w)
    have hL8 := lenT_lt (cntF s.data.toList) hf
    have hcost := costT_short (cntF s.data.toList) hf (by omega)
    have hfz : ∀ i, cntF s.data.toList i ≤ 2000 := fun i => by have := cntF_le s.data.toList i; omega
    rw [hsum] at hcost
    generalize lenT (cntF s.data.toList) = L at *
    generalize cntF s.data.toList = f at *
    have hcl : ∀ i, i ≤ 256 → costT f L i ≤ 510000 := fun i hi => by
      have h1 := costT_le (f := f) (t := L) (fun j => by have := hL8 j; omega) i
      have h2 := sumF_mono f hi
      omega
    have HTc := Lib.hid (fun w => count_any ⟨#[UInt8.ofNat a, UInt8.ofNat b, UInt8.ofNat a]⟩ (by show 3 ≤ _; omega) w)
    have HTl := Lib.hid (fun w => lengths_any (cntF [UInt8.ofNat a, UInt8.ofNat b, UInt8.ofNat a]) (cntF_small (show 3 < 18446744073709551616 by decide)) w)
    have hta := len_two (UInt8.ofNat a) (UInt8.ofNat b) (UInt8.ofNat a) (.inl rfl)
    have htb := len_two (UInt8.ofNat a) (UInt8.ofNat b) (UInt8.ofNat b) (.inr rfl)
    rw [ofNat_lt ha] at hta
    rw [ofNat_lt hb] at htb
    change Hid (∀ w, Calls Try.prog _ _ w fun e w' => e = .returned (.agg (tabV .u64 (cntF [UInt8.ofNat a, UInt8.ofNat b, UInt8.ofNat a]))) ∧ Ext w w') at HTc
    generalize lenT (cntF [UInt8.ofNat a, UInt8.ofNat b, UInt8.ofNat a]) = L2 at *
    generalize cntF [UInt8.ofNat a, UInt8.ofNat b, UInt8.ofNat a] = f2 at *
    clear esz hf
    go_enter Try.func9, Try.ntmps9
    go_wp2_with fail
    refine (HA.out w).mono ?_
    rintro _ w1 ⟨rfl, x1⟩
    go_wp2_with fail
    refine (HCt.out w1).mono ?_
    rintro _ w2 ⟨rfl, x2⟩
    have h1 := ((St.start noB w).ext (x1.trans x2)).alloc (tabV .u64 (fun _ => 0)) 25
    clear HCt x1 x2
    have hz := zero64
    have hq := Lib.hid h1.blk
    obtain ⟨w3, hw3, h3⟩ := name_world (P := fun x => St noB w x _) (h1.row (tabV .u64 f))
    have HW3 := Lib.hid hw3
    have hq3 := Lib.hid h3.blk
    clear h1 hw3
    go_wp2_with (first
      | (with_reducible refine (show wpList _ _ _ _ _ (World.alloc _ _) from ?_); refine wpList_store_row rfl _ _ _ rfl w2.heap.size (tabV .u64 f) rfl rfl 25 (tabV .u64 (fun _ => 0)) hq.out (size64 _) (tabV_sizes _ _ _) (tabV_one _ _) ?_; rw [HW3.out])
      | (refine wpList_load_row rfl _ _ rfl w2.heap.size rfl 25 (tabV .u64 f) (0, 0) (.array 256 24) hq3.out Try.underlying25 rfl (size64 _) ?_))
    refine (HLn.out _).mono ?_
    rintro _ w4 ⟨rfl, x4⟩
    generalize w2.heap.size = wb at h3 ⊢
    clear hq HW3 hq3 HLn hz
    have h5 := (h3.ext x4).alloc (tabV .u8 (fun _ => 0)) 27
    have hz := zero8
    have hq := Lib.hid h5.blk
    obtain ⟨w5, hw5, h6⟩ := name_world (P := fun x => St noB w x _) (h5.row (tabV .u8 L))
    have HW5 := Lib.hid hw5
    clear h5 hw5 x4 h3
    go_wp2_with (with_reducible refine (show wpList _ _ _ _ _ (World.alloc _ _) from ?_); refine wpList_store_row rfl _ _ _ rfl w4.heap.size (tabV .u8 L) rfl rfl 27 (tabV .u8 (fun _ => 0)) hq.out (size8 _) (tabV_sizes _ _ _) (tabV_one _ _) ?_; rw [HW5.out])
    generalize w4.heap.size = lb at h6 ⊢
    clear hq HW5 hz
    go_loopw [9, 24] (fun v9 v24 wr => ∃ i : Nat, v9 = .int .u64 (costT f L i) ∧ v24 = .int .i64 i ∧ i ≤ 256 ∧ St noB w wr [blkT lb (tabV .u8 L) 27, blkT wb (tabV .u64 f) 25]) (fun _ v24 _ => 256 - (intOf v24).toNat)
    case atStart => exact ⟨0, rfl, rfl, by omega, h6⟩
    case round =>
      clear h6
      obtain ⟨i, rfl, rfl, hi, h⟩ := hrel
      by_cases hlt : i < 256
      · have hl1 : (i : Int) < 256 := by omega
        have pl := cell_of_heap h.blk i
        have pw := cell_of_heap (h.pull 1).blk i
        rw [tabV_get _ _ _ hlt] at pl pw
        have ql := fun y : After wr => (After.ext y).cell pl
        have qw := fun y : After wr => (After.ext y).cell pw
        have hc1 := hcl i hi
        have hc2 := hcl (i + 1) (by omega)
        have E : costT f L (i + 1) = costT f L i + f i * L i := rfl
        obtain ⟨p, hp⟩ : ∃ p, f i * L i = p := ⟨_, rfl⟩
        have hmul : (f i : Int) * (L i : Int) = (p : Int) := by rw [← hp]; exact (Int.natCast_mul _ _).symm
        rw [hp] at E
        have HE := Lib.hid E
        rw [E] at hc2
        have hli := hL8 i
        have hw64 : IntKind.u64.wrap (L i : Int) = (L i : Int) := by rw [IntKind.wrap_u64]; omega
        clear E hp
        generalize costT f L i = q at *
        generalize f i = x at *
        generalize L i = y at *
        have hw1 : IntKind.u64.wrap (p : Int) = (p : Int) := by rw [IntKind.wrap_u64]; omega
        have hw2 : IntKind.u64.wrap ((q : Int) + (p : Int)) = (q : Int) + (p : Int) := by rw [IntKind.wrap_u64]; omega
        go_wp2_with fail
        (refine wp_region_after (by kernel_rfl) (by kernel_rfl) ?_; (repeat (first | go_big_quiet_skip | (go_big_quiet_want; first | (fail; simp only [Act.put, List.setIfInBounds_toArray, List.set_cons_succ, List.set_cons_zero]; go_big_quiet_on) | (go_big_quiet_op; first | go_big_quiet_on | (apply Exists.intro; refine ⟨fun _ => ?_, ?_⟩; (· (fail)); go_big_quiet_on))))); refine wpQuiet_nil ?_; rintro _ ⟨z, rfl⟩)
        have h2 := h.ext z.ext
        clear h
        go_wp2_with fail
        exact ⟨⟨i + 1, by rw [HE.out]; rfl, by go_num, by omega, h2⟩, by simp only [intOf]; omega⟩
      · obtain rfl : i = 256 := by omega
        have hl1 : ¬ ((256 : Nat) : Int) < 256 := by omega
        have hce : (bytesV [UInt8.ofNat a, UInt8.ofNat b, UInt8.ofNat a]).toArray = #[.int .u8 (a : Nat), .int .u8 (b : Nat), .int .u8 (a : Nat)] := by
          unfold bytesV
          simp only [List.map_cons, List.map_nil, bv_ofNat, Nat.mod_eq_of_lt ha, Nat.mod_eq_of_lt hb]
        have h3 := h.alloc (bytesV [UInt8.ofNat a, UInt8.ofNat b, UInt8.ofNat a]).toArray 5
        have hcv := run_string_own' (h3.ownOf (by simp)).own
        rw [hce] at h3 hcv
        change Sem.run Try.prog (convert 30 9 (.slice (some ⟨wr.heap.size, 0, none⟩) 3 3)) _ = .ok (.string ⟨#[UInt8.ofNat a, UInt8.ofNat b, UInt8.ofNat a]⟩) _ at hcv
        have h4 := h3.drop
        clear h3 hce h
        generalize costT f L 256 = q at *
        go_wp2_with fail
        refine (HTc.out _).mono ?_
        rintro _ w6 ⟨rfl, x6⟩
        go_wp2_with fail
        refine (HTl.out _).mono ?_
        rintro _ w7 ⟨rfl, x7⟩
        have h5 := ((h4.ext x6).ext x7).alloc (tabV .u8 (fun _ => 0)) 27
        have hz := zero8
        have hq := Lib.hid h5.blk
        obtain ⟨w8, hw8, h8⟩ := name_world (P := fun x => St noB w x _) (h5.row (tabV .u8 L2))
        have HW8 := Lib.hid hw8
        have k0 := cell_of_heap h8.blk a
        have k1 := cell_of_heap h8.blk b
        rw [tabV_get _ _ _ (by omega)] at k0 k1
        rw [hta] at k0
        rw [htb] at k1
        have HX := Lib.hid h8.ends
        clear h5 hw8 h8 x6 x7 h4 hcv HTc HTl
        have hm1 : IntKind.u64.wrap (s.size : Int) = (s.size : Int) := by rw [IntKind.wrap_u64]; omega
        have hm2 : IntKind.u64.wrap (8 * (s.size : Int)) = 8 * (s.size : Int) := by rw [IntKind.wrap_u64]; omega
        have hle : (q : Int) ≤ 8 * (s.size : Int) := by omega
        have ha9 : (a : Int) < 256 := by omega
        have hb9 : (b : Int) < 256 := by omega
        go_wp2_with (with_reducible refine (show wpList _ _ _ _ _ (World.alloc _ _) from ?_); refine wpList_store_row rfl _ _ _ rfl w7.heap.size (tabV .u8 L2) rfl rfl 27 (tabV .u8 (fun _ => 0)) hq.out (size8 _) (tabV_sizes _ _ _) (tabV_one _ _) ?_; rw [HW8.out])
        go_ret
        exact ⟨rfl, HX.out⟩
  · have hn : (2000 : Int) < (s.size : Int) := by omega
    go_enter Try.func9, Try.ntmps9
    go_wp2_with fail
    refine (HA.out w).mono ?_
    rintro _ w1 ⟨rfl, x1⟩
    go_wp2_with fail
    refine (HA.out w1).mono ?_
    rintro _ w2 ⟨rfl, x2⟩
    go_wp2_with fail
    go_ret
    exact ⟨rfl, x1.trans x2⟩
end Go.Proofs.Ytclhmlgbhlmekaa
