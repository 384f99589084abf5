/- Layer 4: runs unpacked. -/
import Derived.Test.YtpdhfmkaeemadaaRWalk2
namespace Go.Proofs.Ytpdhfmkaeemadaa
open Go.RowKit Go.WideShapes
set_option linter.unusedVariables false
set_option linter.unusedSimpArgs false
/-- m numbers that a call owns -/
abbrev mlT (v : Value) (m : Nat) (l : List Nat) : Thing := ownT 34 1 v m (numsV l)
/-- runs in memory -/
def RRow (w : World) (A : Option Addr) (p : List Rn) : Prop := ∀ i, i < p.length → ∃ b off, A = some ⟨b, off, none⟩ ∧ w.cell? ⟨b, off + i * 2, none⟩ = some (.int .u64 ((p.getD i (0, 0)).1 : Nat)) ∧ w.cell? ⟨b, off + i * 2 + 1, none⟩ = some (.int .u64 ((p.getD i (0, 0)).2 : Nat))
theorem RRow.ext {w w' : World} {A : Option Addr} {p : List Rn} (h : RRow w A p) (x : Ext w w') : RRow w' A p := fun i hi => by
  obtain ⟨b, off, e, h0, h1⟩ := h i hi
  exact ⟨b, off, e, x.cell h0, x.cell h1⟩
theorem Own.rrow {w : World} {t : TypeId} {A : Option Addr} {n cap : Nat} {p : List Rn} (h : Own w t 2 (.slice A n cap) n (runsV p)) (hl : p.length = n) : RRow w A p := by
  intro i hi
  obtain ⟨g, c, e, _⟩ := h.slice (by omega)
  cases e
  exact ⟨g, 0, rfl, by rw [Nat.zero_add, Own.cell h (i * 2) (by omega), runsV_get0 p i hi], by rw [Nat.zero_add, Own.cell h (i * 2 + 1) (by omega), runsV_get1 p i hi]⟩
set_option maxRecDepth 20000 in
set_option maxHeartbeats 4000000 in
theorem rsame_any (A B : Option Addr) (ca cb : Nat) (p : List Rn) (m : Nat) (w : World) (hp : p.length = m) (hm : m ≤ 1000000) (ha : RRow w A p) (hb : RRow w B p) :
    Calls Try.prog 12 #[.slice A m ca, .slice B m cb] w fun e w' => e = .returned (.bool true) ∧ Ext w w' := by
  have ha2 : ∀ i, i < m → _ := fun i hi => ha i (by omega)
  have hb2 : ∀ i, i < m → _ := fun i hi => hb i (by omega)
  clear ha hb hp
  go_enter Try.func12, Try.ntmps12
  go_wp2_with fail
  go_loopw [13] (fun vi wr => ∃ i : Nat, i ≤ m ∧ vi = .int .i64 i ∧ Ext w wr) (fun vi _ => m - (intOf vi).toNat)
  case atStart => exact ⟨0, by omega, rfl, Mut.refl _ _⟩
  case round =>
    obtain ⟨i, hi, rfl, hx⟩ := hrel
    by_cases hlt : i < m
    · obtain ⟨b1, o1, rfl, hc1, hc2⟩ := ha2 i hlt
      obtain ⟨b2, o2, rfl, hd1, hd2⟩ := hb2 i hlt
      generalize (p.getD i (0, 0)).1 = u at hc1 hd1
      generalize (p.getD i (0, 0)).2 = c at hc2 hd2
      have hli : (i : Int) < (m : Int) := by omega
      have hl0 : (0 : Int) ≤ (i : Int) := by omega
      have ka1 := fun a : After wr => (After.ext a).cell (hx.cell hc1)
      have ka2 := fun a : After wr => (After.ext a).cell (hx.cell hc2)
      have ka3 := fun a : After wr => (After.ext a).cell (hx.cell hd1)
      have ka4 := fun a : After wr => (After.ext a).cell (hx.cell hd2)
      clear hc1 hc2 hd1 hd2 ha2 hb2
      go_wp2_with fail
      (refine wp_region_after (by kernel_rfl) (by kernel_rfl) ?_; (repeat (first | go_big_quiet_skip | (go_big_quiet_want; first | (fail; simp only [Act.put, List.setIfInBounds_toArray, List.set_cons_succ, List.set_cons_zero]; go_big_quiet_on) | (go_big_quiet_op; first | go_big_quiet_on | (apply Exists.intro; refine ⟨fun _ => ?_, ?_⟩; (· (fail)); go_big_quiet_on))))); refine wpQuiet_nil ?_; rintro _ ⟨y, rfl⟩)
      have hx2 := Mut.trans hx y.ext
      clear ka1 ka2 ka3 ka4
      go_wp2_with fail
      go_roundw
      case rel => first | exact ⟨i + 1, by omega, by go_num, hx2⟩ | ((repeat apply Exists.intro); exact ⟨⟨i + 1, by omega, by go_num, hx2⟩, rfl⟩)
      case measure => simp [intOf]; omega
    · obtain rfl : i = m := by omega
      go_wp2_with fail
      go_ret
      exact ⟨rfl, hx⟩
section
variable {S : Nat → Prop} {W w : World} {M : List Thing}
theorem getLast_getD (l : List Nat) (k : Nat) (h : l.length = k + 1) (v : Nat) : l.getLast? = some v ↔ l.getD k 0 = v := by
  rw [List.getLast?_eq_getElem?, h, Nat.add_sub_cancel, List.getD_eq_getElem?_getD, List.getElem?_eq_getElem (by omega)]
  simp
set_option maxRecDepth 20000 in
set_option maxHeartbeats 4000000 in
theorem add_zero (h : St S W w M) (A : Option Addr) (n ca : Nat) (xv xc : Nat) (hxc : xc = 0) (most : Int) :
    Calls Try.prog 22 #[.slice A n ca, .agg #[.int .u64 xv, .int .u64 xc], .int .i64 most] w fun e w' => e = .returned (.tuple #[.slice none 0 0, .int .i64 3]) ∧ St S W w' M := by
  have h1 := h.alloc #[Value.int .u64 xv, Value.int .u64 xc] 36
  have kx0 : ∀ a : After (w.alloc (.cells #[Value.int .u64 xv, Value.int .u64 xc] 36)), a.w.cell? ⟨w.heap.size, 0, none⟩ = some (.int .u64 xv) := fun a => (After.ext a).cell (cell_of_heap h1.blk 0)
  have kx1 : ∀ a : After (w.alloc (.cells #[Value.int .u64 xv, Value.int .u64 xc] 36)), a.w.cell? ⟨w.heap.size, 1, none⟩ = some (.int .u64 xc) := fun a => (After.ext a).cell (cell_of_heap h1.blk 1)
  have hz : ((xc : Int) == 0) = true := by rw [hxc]; rfl
  clear hxc
  go_enter Try.func22, Try.ntmps22
  go_wp2_with fail
  (refine wp_region_after (by kernel_rfl) (by kernel_rfl) ?_; (repeat (first | go_big_quiet_skip | (go_big_quiet_want; first | (fail; simp only [Act.put, List.setIfInBounds_toArray, List.set_cons_succ, List.set_cons_zero]; go_big_quiet_on) | (go_big_quiet_op; first | go_big_quiet_on | (apply Exists.intro; refine ⟨fun _ => ?_, ?_⟩; (· (fail)); go_big_quiet_on))))); refine wpQuiet_nil ?_; rintro _ ⟨y, rfl⟩)
  go_wp2_with fail
  go_ret2
  exact ⟨rfl, (h1.ext y.ext).drop⟩
set_option maxRecDepth 20000 in
set_option maxHeartbeats 4000000 in
theorem add_same (A : Option Addr) (n ca : Nat) (xv xc : Nat) (hxc : xc ≠ 0) (most : Int) (acc : List Nat) (h : St S W w (mlT (.slice A n ca) n acc :: M)) (hn : acc.length = n) (hnb : n ≤ 1000000) (hs : acc.getLast? = some xv) :
    Calls Try.prog 22 #[.slice A n ca, .agg #[.int .u64 xv, .int .u64 xc], .int .i64 most] w fun e w' => e = .returned (.tuple #[.slice none 0 0, .int .i64 3]) ∧ St S W w' M := by
  obtain ⟨k, rfl⟩ : ∃ k, n = k + 1 := ⟨n - 1, by cases acc with | nil => simp at hs | cons a l => simp at hn; omega⟩
  have hx := (getLast_getD acc k hn xv).1 hs
  have h1 := h.alloc #[Value.int .u64 xv, Value.int .u64 xc] 36
  have kx0 : ∀ a : After (w.alloc (.cells #[Value.int .u64 xv, Value.int .u64 xc] 36)), a.w.cell? ⟨w.heap.size, 0, none⟩ = some (.int .u64 xv) := fun a => (After.ext a).cell (cell_of_heap h1.blk 0)
  have kx1 : ∀ a : After (w.alloc (.cells #[Value.int .u64 xv, Value.int .u64 xc] 36)), a.w.cell? ⟨w.heap.size, 1, none⟩ = some (.int .u64 xc) := fun a => (After.ext a).cell (cell_of_heap h1.blk 1)
  have hz : ((xc : Int) == 0) = false := by rw [beq_eq_false_iff_ne]; omega
  have hown := h.own
  obtain ⟨g3, hA, hc⟩ := hown.numAt hn k (by omega)
  subst hA
  rw [hx] at hc
  have x1 : Ext w (w.alloc (.cells #[Value.int .u64 xv, Value.int .u64 xc] 36)) := (Mut.refl _ _).alloc _
  have kl : ∀ a : After (w.alloc (.cells #[Value.int .u64 xv, Value.int .u64 xc] 36)), a.w.cell? ⟨g3, k, none⟩ = some (.int .u64 xv) := fun a => (After.ext a).cell (x1.cell hc)
  have hk0 : (0 : Int) < (k : Int) + 1 := by omega
  have hk1 : (k : Int) + 1 - 1 = (k : Int) := by omega
  have hkk : (k : Int) < (k : Int) + 1 := by omega
  have hk2 : (0 : Int) ≤ (k : Int) := by omega
  clear hxc hn hs hx hown hc
  go_enter Try.func22, Try.ntmps22
  go_wp2_with fail
  (refine wp_region_after (by kernel_rfl) (by kernel_rfl) ?_; (repeat (first | go_big_quiet_skip | (go_big_quiet_want; first | (fail; simp only [Act.put, List.setIfInBounds_toArray, List.set_cons_succ, List.set_cons_zero]; go_big_quiet_on) | (go_big_quiet_op; first | go_big_quiet_on | (apply Exists.intro; refine ⟨fun _ => ?_, ?_⟩; (· (fail)); go_big_quiet_on))))); refine wpQuiet_nil ?_; rintro _ ⟨y, rfl⟩)
  go_wp2_with fail
  go_ret2
  exact ⟨rfl, (h1.ext y.ext).drop.drop⟩
set_option maxRecDepth 20000 in
set_option maxHeartbeats 4000000 in
theorem add_go (A : Option Addr) (n ca : Nat) (xv xc : Nat) (hxc : xc ≠ 0) (hv : xv < 18446744073709551616) (hc64 : xc < 18446744073709551616) (most : Nat) (hmb : most ≤ 1000000) (hnm : n ≤ most) (acc : List Nat) (h : St S W w (mlT (.slice A n ca) n acc :: M)) (hn : acc.length = n) (hs : acc.getLast? ≠ some xv) :
    Calls Try.prog 22 #[.slice A n ca, .agg #[.int .u64 xv, .int .u64 xc], .int .i64 most] w fun e w' => ∃ (v : Value) (er : Int), e = .returned (.tuple #[v, .int .i64 er]) ∧
      (n + xc ≤ most → er = 0 ∧ ∃ A' c', v = .slice A' (n + xc) c' ∧ St S W w' (mlT (.slice A' (n + xc) c') (n + xc) (acc ++ List.replicate xc xv) :: M)) ∧ (most < n + xc → er = 4 ∧ St S W w' M) := by
  cases n with
  | zero =>
    have h1 := h.alloc #[Value.int .u64 xv, Value.int .u64 xc] 36
    have kx0 : ∀ a : After (w.alloc (.cells #[Value.int .u64 xv, Value.int .u64 xc] 36)), a.w.cell? ⟨w.heap.size, 0, none⟩ = some (.int .u64 xv) := fun a => (After.ext a).cell (cell_of_heap h1.blk 0)
    have kx1 : ∀ a : After (w.alloc (.cells #[Value.int .u64 xv, Value.int .u64 xc] 36)), a.w.cell? ⟨w.heap.size, 1, none⟩ = some (.int .u64 xc) := fun a => (After.ext a).cell (cell_of_heap h1.blk 1)
    have hz : ((xc : Int) == 0) = false := by rw [beq_eq_false_iff_ne]; omega
    have hown := h.own
    clear hxc hn hs hown
    have hk0 : ¬ (0 : Int) < ((0 : Nat) : Int) := by omega
    go_enter Try.func22, Try.ntmps22
    go_wp2_with fail
    (refine wp_region_after (by kernel_rfl) (by kernel_rfl) ?_; (repeat (first | go_big_quiet_skip | (go_big_quiet_want; first | (fail; simp only [Act.put, List.setIfInBounds_toArray, List.set_cons_succ, List.set_cons_zero]; go_big_quiet_on) | (go_big_quiet_op; first | go_big_quiet_on | (apply Exists.intro; refine ⟨fun _ => ?_, ?_⟩; (· (fail)); go_big_quiet_on))))); refine wpQuiet_nil ?_; rintro _ ⟨y, rfl⟩)
    have h2 := h1.ext y.ext
    clear kx0 kx1 h
    have c0 := cell_of_heap h2.blk 0
    have c1 := cell_of_heap h2.blk 1
    change y.w.cell? _ = some (.int .u64 xv) at c0
    change y.w.cell? _ = some (.int .u64 xc) at c1
    generalize w.heap.size = bx at h2 c0 c1 ⊢
    by_cases hlong : most < 0 + xc
    · have hg : (most : Int) - (0 : Nat) < xc := by omega
      go_wp2_with fail
      go_ret2
      exact ⟨_, 4, rfl, fun hh => absurd hlong (by omega), fun _ => ⟨rfl, h2.drop.drop⟩⟩
    · have hg : ¬ (most : Int) - (0 : Nat) < xc := by omega
      have h3 := h2.swap
      clear h1 h2
      go_wp2_with fail
      clear c0 c1
      go_loopw [0, 39] (fun vl vj wr => ∃ (j kk : Nat) (v : Value), vl = v ∧ vj = .int .u64 j ∧ j ≤ xc ∧ Hid (kk = 0 + j) ∧ kk ≤ most ∧ St S W wr (mlT v kk (acc ++ List.replicate j xv) :: blkT bx #[Value.int .u64 xv, Value.int .u64 xc] 36 :: M)) (fun _ vj _ => xc - (intOf vj).toNat)
      case atStart => exact ⟨0, 0, _, rfl, rfl, by omega, Lib.hid (by omega), by omega, by simpa using h3⟩
      case round =>
        clear h3
        obtain ⟨j, kk, v, rfl, rfl, hj, HKJ, hkm, h⟩ := hrel
        obtain ⟨A3, c3, rfl⟩ := h.own.form
        by_cases hlt : j < xc
        · have c0 := cell_of_heap h.swap.blk 0
          change wr.cell? _ = some (.int .u64 xv) at c0
          go_wp2_with (at_builtin; refine wpList_push rfl _ _ _ rfl 34 (.int .u64 0) 1 8 Try.underlying22 u64_info rfl (by decide) h rfl rfl rfl (numsV_one [xv]) (by unfold maxLen; omega) (by omega) ?_; intro A' c' w6 h6)
          have h7 : St S W w6 (mlT (.slice A' (kk + 1) c') (kk + 1) (acc ++ List.replicate (j + 1) xv) :: blkT bx #[Value.int .u64 xv, Value.int .u64 xc] 36 :: M) := by
            have e : numsV (acc ++ List.replicate (j + 1) xv) = numsV (acc ++ List.replicate j xv) ++ #[Value.int .u64 (xv : Nat)].toList := by
              rw [List.replicate_succ', ← List.append_assoc, numsV_append]; rfl
            unfold mlT
            rw [e]; exact h6
          have hkm2 : kk + 1 ≤ most := by have := HKJ.out; omega
          have hkj2 : Hid (kk + 1 = 0 + (j + 1)) := Lib.hid (by have := HKJ.out; omega)
          go_roundw
          case rel => first | exact ⟨j + 1, kk + 1, _, rfl, by go_num, by omega, hkj2, hkm2, h7⟩ | ((repeat apply Exists.intro); exact ⟨⟨j + 1, kk + 1, _, rfl, by go_num, by omega, hkj2, hkm2, h7⟩, rfl⟩)
          case measure => simp [intOf]; omega
        · obtain rfl : j = xc := by omega
          go_wp2_with fail
          go_ret2
          have HK2 := HKJ.out
          rw [HK2] at h
          rw [HK2]
          exact ⟨_, 0, rfl, fun _ => ⟨rfl, _, _, rfl, h.swap.drop⟩, fun hh => absurd hh hlong⟩
  | succ k =>
    have hx : ¬ acc.getD k 0 = xv := fun e => hs ((getLast_getD acc k hn xv).2 e)
    have h1 := h.alloc #[Value.int .u64 xv, Value.int .u64 xc] 36
    have kx0 : ∀ a : After (w.alloc (.cells #[Value.int .u64 xv, Value.int .u64 xc] 36)), a.w.cell? ⟨w.heap.size, 0, none⟩ = some (.int .u64 xv) := fun a => (After.ext a).cell (cell_of_heap h1.blk 0)
    have kx1 : ∀ a : After (w.alloc (.cells #[Value.int .u64 xv, Value.int .u64 xc] 36)), a.w.cell? ⟨w.heap.size, 1, none⟩ = some (.int .u64 xc) := fun a => (After.ext a).cell (cell_of_heap h1.blk 1)
    have hz : ((xc : Int) == 0) = false := by rw [beq_eq_false_iff_ne]; omega
    have hown := h.own
    obtain ⟨g3, hA, hc⟩ := hown.numAt hn k (by omega)
    subst hA
    generalize acc.getD k 0 = z at hx hc
    have x1 : Ext w (w.alloc (.cells #[Value.int .u64 xv, Value.int .u64 xc] 36)) := (Mut.refl _ _).alloc _
    have kl : ∀ a : After (w.alloc (.cells #[Value.int .u64 xv, Value.int .u64 xc] 36)), a.w.cell? ⟨g3, k, none⟩ = some (.int .u64 z) := fun a => (After.ext a).cell (x1.cell hc)
    have hk0 : (0 : Int) < (k : Int) + 1 := by omega
    have hk1 : (k : Int) + 1 - 1 = (k : Int) := by omega
    have hkk : (k : Int) < (k : Int) + 1 := by omega
    have hk2 : (0 : Int) ≤ (k : Int) := by omega
    have hzx : ((z : Int) == (xv : Int)) = false := by rw [beq_eq_false_iff_ne]; omega
    clear hxc hn hs hx hown hc
    go_enter Try.func22, Try.ntmps22
    go_wp2_with fail
    (refine wp_region_after (by kernel_rfl) (by kernel_rfl) ?_; (repeat (first | go_big_quiet_skip | (go_big_quiet_want; first | (fail; simp only [Act.put, List.setIfInBounds_toArray, List.set_cons_succ, List.set_cons_zero]; go_big_quiet_on) | (go_big_quiet_op; first | go_big_quiet_on | (apply Exists.intro; refine ⟨fun _ => ?_, ?_⟩; (· (fail)); go_big_quiet_on))))); refine wpQuiet_nil ?_; rintro _ ⟨y, rfl⟩)
    clear kl
    have h2 := h1.ext y.ext
    clear kx0 kx1 h
    have c0 := cell_of_heap h2.blk 0
    have c1 := cell_of_heap h2.blk 1
    change y.w.cell? _ = some (.int .u64 xv) at c0
    change y.w.cell? _ = some (.int .u64 xc) at c1
    generalize w.heap.size = bx at h2 c0 c1 ⊢
    by_cases hlong : most < (k + 1) + xc
    · have hg : (most : Int) - ((k + 1) : Nat) < xc := by omega
      go_wp2_with fail
      go_ret2
      exact ⟨_, 4, rfl, fun hh => absurd hlong (by omega), fun _ => ⟨rfl, h2.drop.drop⟩⟩
    · have hg : ¬ (most : Int) - ((k + 1) : Nat) < xc := by omega
      have h3 := h2.swap
      clear h1 h2
      go_wp2_with fail
      clear c0 c1
      go_loopw [0, 39] (fun vl vj wr => ∃ (j kk : Nat) (v : Value), vl = v ∧ vj = .int .u64 j ∧ j ≤ xc ∧ Hid (kk = (k + 1) + j) ∧ kk ≤ most ∧ St S W wr (mlT v kk (acc ++ List.replicate j xv) :: blkT bx #[Value.int .u64 xv, Value.int .u64 xc] 36 :: M)) (fun _ vj _ => xc - (intOf vj).toNat)
      case atStart => exact ⟨0, (k + 1), _, rfl, rfl, by omega, Lib.hid (by omega), by omega, by simpa using h3⟩
      case round =>
        clear h3
        obtain ⟨j, kk, v, rfl, rfl, hj, HKJ, hkm, h⟩ := hrel
        obtain ⟨A3, c3, rfl⟩ := h.own.form
        by_cases hlt : j < xc
        · have c0 := cell_of_heap h.swap.blk 0
          change wr.cell? _ = some (.int .u64 xv) at c0
          go_wp2_with (at_builtin; refine wpList_push rfl _ _ _ rfl 34 (.int .u64 0) 1 8 Try.underlying22 u64_info rfl (by decide) h rfl rfl rfl (numsV_one [xv]) (by unfold maxLen; omega) (by omega) ?_; intro A' c' w6 h6)
          have h7 : St S W w6 (mlT (.slice A' (kk + 1) c') (kk + 1) (acc ++ List.replicate (j + 1) xv) :: blkT bx #[Value.int .u64 xv, Value.int .u64 xc] 36 :: M) := by
            have e : numsV (acc ++ List.replicate (j + 1) xv) = numsV (acc ++ List.replicate j xv) ++ #[Value.int .u64 (xv : Nat)].toList := by
              rw [List.replicate_succ', ← List.append_assoc, numsV_append]; rfl
            unfold mlT
            rw [e]; exact h6
          have hkm2 : kk + 1 ≤ most := by have := HKJ.out; omega
          have hkj2 : Hid (kk + 1 = (k + 1) + (j + 1)) := Lib.hid (by have := HKJ.out; omega)
          go_roundw
          case rel => first | exact ⟨j + 1, kk + 1, _, rfl, by go_num, by omega, hkj2, hkm2, h7⟩ | ((repeat apply Exists.intro); exact ⟨⟨j + 1, kk + 1, _, rfl, by go_num, by omega, hkj2, hkm2, h7⟩, rfl⟩)
          case measure => simp [intOf]; omega
        · obtain rfl : j = xc := by omega
          go_wp2_with fail
          go_ret2
          have HK2 := HKJ.out
          rw [HK2] at h
          rw [HK2]
          exact ⟨_, 0, rfl, fun _ => ⟨rfl, _, _, rfl, h.swap.drop⟩, fun hh => absurd hh hlong⟩
end
end Go.Proofs.Ytpdhfmkaeemadaa
