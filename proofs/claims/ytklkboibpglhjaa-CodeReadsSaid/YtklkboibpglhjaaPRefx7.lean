-- by a program of this work, out of the translation: functions, and what a call of each comes to
import Derived.Test.YtklkboibpglhjaaPRefx0
import Derived.Test.YtklkboibpglhjaaPRefx6
namespace Go.Proofs.Ytklkboibpglhjaa.PRef
open Go.RowKit Go.Proofs.YtklkboibpglhjaaW.PrintWords Go.Proofs.YtklkboibpglhjaaW.PrintLast Go.Proofs.YtklkboibpglhjaaW.PrintMore
attribute [local go_sem] max2_int min2_int max_two min_two max_three min_three max_four min_four   -- for this text's walks alone
set_option linter.unusedVariables false
set_option linter.unusedSimpArgs false

/-! ### rondeauref09_Print: function 23 -/
mutual
def rondeauref09_Print.l0 : Nat → ByteArray → Int → List (S70) → List (List (S24)) → Option (ByteArray)
  | 0, _, _, _, _ => none
  | k + 1, x3, x4, x132000, x132001 => if x4 < (x132000.length : Int) then (if 0 ≤ x4 then ((rondeauref09_bytes.f k (([(rd_T70 x132000 x4).f0, (rd_T70 x132000 x4).f1, (rd_T70 x132000 x4).f2] : List Int))).bind fun t142 => (if x3.size + t142.size ≤ 9223372036854775807 then (rondeauref09_Print.l0 k (x3 ++ t142) (wrap64 (x4 + 1)) x132000 x132001) else (none))) else (none)) else ((rondeauref09_bytes.f k (([(x132001.length : Int)] : List Int))).bind fun t146 => (if x3.size + t146.size ≤ 9223372036854775807 then (rondeauref09_Print.l1 k (x3 ++ t146) 0 x132000 x132001) else (none)))
def rondeauref09_Print.l1 : Nat → ByteArray → Int → List (S70) → List (List (S24)) → Option (ByteArray)
  | 0, _, _, _, _ => none
  | k + 1, x3, x5, x132000, x132001 => if x5 < (x132001.length : Int) then (if 0 ≤ x5 then ((rondeauref02_Print.f k (IntKind.u64.wrap (((rd_L4 x132001 x5).length : Int)))).bind fun t148 => (if x3.size + t148.size ≤ 9223372036854775807 then (rondeauref09_Print.l2 k (x3 ++ t148) x5 0 x132000 x132001) else (none))) else (none)) else (some x3)
def rondeauref09_Print.l2 : Nat → ByteArray → Int → Int → List (S70) → List (List (S24)) → Option (ByteArray)
  | 0, _, _, _, _, _ => none
  | k + 1, x3, x5, x6, x132000, x132001 => if 0 ≤ x5 then (if x5 < (x132001.length : Int) then (if x6 < ((rd_L4 x132001 x5).length : Int) then (if 0 ≤ x6 then ((rondeauref09_bytes.f k (([(rd_T24 (rd_L4 x132001 x5) x6).f0, (rd_T24 (rd_L4 x132001 x5) x6).f1, (rd_T24 (rd_L4 x132001 x5) x6).f2, (rd_T24 (rd_L4 x132001 x5) x6).f3, (rd_T24 (rd_L4 x132001 x5) x6).f4] : List Int))).bind fun t156 => ((rondeauref02_Print.f k ((rd_T24 (rd_L4 x132001 x5) x6).f5)).bind fun t157 => (if t156.size + t157.size ≤ 9223372036854775807 then (if x3.size + (t156.size + t157.size) ≤ 9223372036854775807 then (rondeauref09_Print.l2 k (x3 ++ (t156 ++ t157)) x5 (wrap64 (x6 + 1)) x132000 x132001) else (none)) else (none)))) else (none)) else (rondeauref09_Print.l1 k x3 (wrap64 (x5 + 1)) x132000 x132001)) else (none)) else (none)
end
def rondeauref09_Print.f (k : Nat) (l0_0 : List (S70)) (l0_1 : List (List (S24))) : Option (ByteArray) := (rondeauref09_bytes.f k (([(l0_0.length : Int)] : List Int))).bind fun t135 => (rondeauref09_Print.l0 k t135 0 l0_0 l0_1)
theorem rondeauref09_Print.mono_l : ∀ k, (∀ y0 y1 y2 y3, LeO (rondeauref09_Print.l0 k y0 y1 y2 y3) (rondeauref09_Print.l0 (k + 1) y0 y1 y2 y3)) ∧ (∀ y0 y1 y2 y3, LeO (rondeauref09_Print.l1 k y0 y1 y2 y3) (rondeauref09_Print.l1 (k + 1) y0 y1 y2 y3)) ∧ (∀ y0 y1 y2 y3 y4, LeO (rondeauref09_Print.l2 k y0 y1 y2 y3 y4) (rondeauref09_Print.l2 (k + 1) y0 y1 y2 y3 y4))
  | 0 => ⟨fun _ _ _ _ r h => by simp [rondeauref09_Print.l0] at h, fun _ _ _ _ r h => by simp [rondeauref09_Print.l1] at h, fun _ _ _ _ _ r h => by simp [rondeauref09_Print.l2] at h⟩
  | k + 1 => by
    obtain ⟨ih0, ih1, ih2⟩ := rondeauref09_Print.mono_l k
    refine ⟨?_, ?_, ?_⟩
    · intro y0 y1 y2 y3
      unfold rondeauref09_Print.l0
      repeat' first
      | (with_reducible exact ih0 _ _ _ _)
      | (with_reducible exact ih1 _ _ _ _)
      | (with_reducible exact ih2 _ _ _ _ _)
      | (with_reducible exact rondeauref02_Print.mono _ _)
      | (with_reducible exact rondeauref09_bytes.mono _ _)
      | (with_reducible exact LeO.refl _)
      | (with_reducible exact LeO.none _)
      | (with_reducible refine LeO.ite ?_ ?_)
      | (with_reducible refine LeO.bind ?_ (fun _ => ?_))
      | exact ih0 _ _ _ _
      | exact ih1 _ _ _ _
      | exact ih2 _ _ _ _ _
      | exact rondeauref02_Print.mono _ _
      | exact rondeauref09_bytes.mono _ _
      | exact LeO.none _
      | refine LeO.ite ?_ ?_
      | refine LeO.bind ?_ (fun _ => ?_)
    · intro y0 y1 y2 y3
      unfold rondeauref09_Print.l1
      repeat' first
      | (with_reducible exact ih0 _ _ _ _)
      | (with_reducible exact ih1 _ _ _ _)
      | (with_reducible exact ih2 _ _ _ _ _)
      | (with_reducible exact rondeauref02_Print.mono _ _)
      | (with_reducible exact rondeauref09_bytes.mono _ _)
      | (with_reducible exact LeO.refl _)
      | (with_reducible exact LeO.none _)
      | (with_reducible refine LeO.ite ?_ ?_)
      | (with_reducible refine LeO.bind ?_ (fun _ => ?_))
      | exact ih0 _ _ _ _
      | exact ih1 _ _ _ _
      | exact ih2 _ _ _ _ _
      | exact rondeauref02_Print.mono _ _
      | exact rondeauref09_bytes.mono _ _
      | exact LeO.none _
      | refine LeO.ite ?_ ?_
      | refine LeO.bind ?_ (fun _ => ?_)
    · intro y0 y1 y2 y3 y4
      unfold rondeauref09_Print.l2
      repeat' first
      | (with_reducible exact ih0 _ _ _ _)
      | (with_reducible exact ih1 _ _ _ _)
      | (with_reducible exact ih2 _ _ _ _ _)
      | (with_reducible exact rondeauref02_Print.mono _ _)
      | (with_reducible exact rondeauref09_bytes.mono _ _)
      | (with_reducible exact LeO.refl _)
      | (with_reducible exact LeO.none _)
      | (with_reducible refine LeO.ite ?_ ?_)
      | (with_reducible refine LeO.bind ?_ (fun _ => ?_))
      | exact ih0 _ _ _ _
      | exact ih1 _ _ _ _
      | exact ih2 _ _ _ _ _
      | exact rondeauref02_Print.mono _ _
      | exact rondeauref09_bytes.mono _ _
      | exact LeO.none _
      | refine LeO.ite ?_ ?_
      | refine LeO.bind ?_ (fun _ => ?_)
theorem rondeauref09_Print.mono : ∀ a0 a1 k, LeO (rondeauref09_Print.f k a0 a1) (rondeauref09_Print.f (k + 1) a0 a1) := by
  intro a0 a1 k
  obtain ⟨ih0, ih1, ih2⟩ := rondeauref09_Print.mono_l k
  unfold rondeauref09_Print.f
  repeat' first
      | (with_reducible exact ih0 _ _ _ _)
      | (with_reducible exact ih1 _ _ _ _)
      | (with_reducible exact ih2 _ _ _ _ _)
      | (with_reducible exact rondeauref02_Print.mono _ _)
      | (with_reducible exact rondeauref09_bytes.mono _ _)
      | (with_reducible exact LeO.refl _)
      | (with_reducible exact LeO.none _)
      | (with_reducible refine LeO.ite ?_ ?_)
      | (with_reducible refine LeO.bind ?_ (fun _ => ?_))
      | exact ih0 _ _ _ _
      | exact ih1 _ _ _ _
      | exact ih2 _ _ _ _ _
      | exact rondeauref02_Print.mono _ _
      | exact rondeauref09_bytes.mono _ _
      | exact LeO.none _
      | refine LeO.ite ?_ ?_
      | refine LeO.bind ?_ (fun _ => ?_)
def rondeauref09_Print.T5 : Bool × List (List Nat × List Nat) := (true, [([], []), ([], []), ([1], [1]), ([], []), ([2, 3], [2, 3]), ([4], [4]), ([5], [5]), ([], []), ([7], [7]), ([], []), ([8, 9], [8, 9]), ([10], [10]), ([11], [11]), ([], []), ([13], [13]), ([], []), ([14, 15], [14, 15]), ([16], [16]), ([17], [17]), ([6, 12, 18], [6, 12, 18]), ([19], [19]), ([0, 20], [0, 20]), ([21, 20, 0, 1, 2, 3, 4, 5, 6, 7, 8, 9, 10, 11, 12, 13, 14, 15, 16, 17, 18, 19, 20, 21], [0, 21])])
def rondeauref09_Print.B5 : List Nat := [0, 0, 2, 0, 14, 30, 62, 0, 128, 0, 896, 1920, 3968, 0, 8192, 0, 57344, 122880, 253952, 524286, 1048574, 2097151, 4194303]
theorem rondeauref09_Print.tab5 : rtab .any (opsOf Try.f23 5) = rondeauref09_Print.T5 := by kernel_rfl
theorem rondeauref09_Print.bits5 : waitsOk rondeauref09_Print.T5.2 rondeauref09_Print.B5 = true := by kernel_rfl
def rondeauref09_Print.T15 : Bool × List (List Nat × List Nat) := (true, [([], []), ([], []), ([1], [1]), ([], []), ([3], [3]), ([], []), ([5], [5]), ([], []), ([7], [7]), ([], []), ([9], [9]), ([2, 4, 6, 8, 10], [2, 4, 6, 8, 10]), ([11], [11]), ([], []), ([13], [13]), ([14, 12], [14]), ([12, 15], [12, 15]), ([0, 16], [0, 16]), ([17, 15, 0, 1, 2, 3, 4, 5, 6, 7, 8, 9, 10, 11, 12, 13, 14, 15, 16, 17], [0, 17])])
def rondeauref09_Print.B15 : List Nat := [0, 0, 2, 0, 8, 0, 32, 0, 128, 0, 512, 2046, 4094, 0, 8192, 32766, 65534, 131071, 262143]
theorem rondeauref09_Print.tab15 : rtab .any (opsOf Try.f23 15) = rondeauref09_Print.T15 := by kernel_rfl
theorem rondeauref09_Print.bits15 : waitsOk rondeauref09_Print.T15.2 rondeauref09_Print.B15 = true := by kernel_rfl
set_option maxHeartbeats 8000000 in
set_option maxRecDepth 100000 in
theorem rondeauref09_Print.calls (k : Nat) (A0_0 : Option Addr) (c0_0 : Nat) (l0_0 : List (S70)) (A0_1 : Option Addr) (c0_1 : Nat) (l0_1 : List (List (S24))) (r : ByteArray) (w : World) (hr0_0 : Kd.C k70 w A0_0 l0_0.length l0_0) (hc0_0 : l0_0.length ≤ c0_0) (hr0_1 : Kd.C (Kd.slice 24 k24) w A0_1 l0_1.length l0_1) (hc0_1 : l0_1.length ≤ c0_1) (h : rondeauref09_Print.f k l0_0 l0_1 = some r) :
    Calls Try.prog 23 #[.agg #[.slice A0_0 l0_0.length c0_0, .slice A0_1 l0_1.length c0_1]] w fun e w' => e = .returned (.string r) ∧ Below w.heap.size w w' := by
  have hu35 := Try.underlying35
  have hu24 := Try.underlying24
  have HR0_0 := Aside0.mk hr0_0
  have HC0_0 := Aside0.mk hc0_0
  clear hr0_0 hc0_0
  have HR0_1 := Aside0.mk hr0_1
  have HC0_1 := Aside0.mk hc0_1
  clear hr0_1 hc0_1
  have HB := Aside0.mk (Below.refl w.heap.size w)
  have H : ((rondeauref09_bytes.f k (([(l0_0.length : Int)] : List Int))).bind fun t135 => (rondeauref09_Print.l0 k t135 0 l0_0 l0_1)) = some r := h
  clear h
  obtain ⟨y132, hy132⟩ : ∃ y_ : List Int, y_ = (([(l0_0.length : Int)] : List Int)) := ⟨_, rfl⟩
  replace H : ((rondeauref09_bytes.f k y132).bind fun t135 => (rondeauref09_Print.l0 k t135 0 l0_0 l0_1)) = some r := by first | (rw [hy132]; with_reducible exact H) | (have H2_ := (Option.bind_some _ _).symm.trans H; rw [hy132]; with_reducible exact H2_) | (have H2_ := (Option.bind_some _ _).symm.trans H; with_reducible exact H2_) | with_reducible exact H | (rw [hy132]; exact H) | exact H
  have Ny132 := Aside0.mk hy132
  clear hy132
  replace H := Option.bind_eq_some_iff.mp H
  obtain ⟨t135, A20, H⟩ := H
  replace H : (rondeauref09_Print.l0 k t135 0 l0_0 l0_1) = some r := H
  have A2 := Aside0.mk A20
  clear A20
  have H' := Aside0.mk H
  clear H
  go_enter Try.func23, Try.ntmps23
  go_wp2_with (first | ((with_reducible refine gate_dst (N := 1) rfl ?_); refine box_event ?hg (N := 1) ?hd (cs := #[.slice A0_0 l0_0.length c0_0, .slice A0_1 l0_1.length c0_1]) (t := 35) ?hr ?_; (case hd => rfl); (case hg => rfl); (case hr => first | (go_simp; done) | (go_simp; rfl)); intro gb131 hg w3 hbox hb; have n0_ := Aside0.mk (below_step (by repeat (first | (with_reducible first | exact HB.out | apply below_alloc | apply pw_below_drewN | apply below_drew1) | exact HB.out)) hb); have n1_ := Aside0.mk (hbox); have n2_ := Aside0.mk ((by rw [hg]; exact (below_size (by repeat (first | (with_reducible first | exact HB.out | apply below_alloc | apply pw_below_drewN | apply below_drew1) | exact HB.out))) : w.heap.size ≤ gb131)); have n3_ := Aside0.mk ((by rw [hg]; exact (below_size (by repeat (first | (with_reducible first | exact HB.out | apply below_alloc | apply pw_below_drewN | apply below_drew1) | exact HB.out))) : w.heap.size ≤ gb131)); clear HB; have HB := n0_; have BK131 := n1_; have GW131 := n2_; have GE131 := n3_; clear n0_ n1_ n2_ n3_; clear hb hbox hg; have hcz4_0 : w3.cell? ⟨gb131, 0, none⟩ = some (.slice A0_0 l0_0.length c0_0) := (blk_cell BK131.out 0).trans rfl; have hcz4_1 : w3.cell? ⟨gb131, 1, none⟩ = some (.slice A0_1 l0_1.length c0_1) := (blk_cell BK131.out 1).trans rfl; have hfz4_0 := blk_frozen BK131.out 0; have hfz4_1 := blk_frozen BK131.out 1) | ((with_reducible refine gate_dst (N := 11) rfl ?_); refine Kd.R_lit (Kd.int .i64) _ 3 ?hg (N := 11) ?hd (xs := ([(l0_0.length : Int)] : List Int)) (inner := [.int .i64 (l0_0.length : Int)]) (ok := fun _ => True) (okp := fun _ => True) ?hr ?hp (fun _ hk => hk) trivial (Below.refl _ _) (Nat.le_refl _) (by simp) ?_; (case hd => rfl); (case hg => rfl); (case hr => first | (go_simp; done) | (go_simp; rfl)); (case hp => exact (Reps.one (show Kd.M (Kd.int .i64) _ _ _ (l0_0.length : Int) [.int .i64 (l0_0.length : Int)] from rfl) (Reps.none _ _))); intro v133 w5 ho6 hb hg_ hnew_; clear hg_ hnew_; (first | rw [← Ny132.out] at ho6 | (simp only [Int.reduceToNat] at ho6; rw [← Ny132.out] at ho6)); have n0_ := Aside0.mk (Kd.R_lower ho6 (below_size (by repeat (first | (with_reducible first | exact HB.out | apply below_alloc | apply pw_below_drewN | apply below_drew1 | refine below_set ?_ GE131.out) | exact HB.out)))); have n1_ := Aside0.mk (blk_below (g := gb131) (o := .cells #[.slice A0_0 l0_0.length c0_0, .slice A0_1 l0_1.length c0_1] 35 (0, 0)) (by (with_reducible repeat (first | refine blk_drewN ?_ _ | refine blk_drew ?_ | refine blk_alloc ?_ _)); exact BK131.out) hb); have n2_ := Aside0.mk (below_step (by repeat (first | (with_reducible first | exact HB.out | apply below_alloc | apply pw_below_drewN | apply below_drew1 | refine below_set ?_ GE131.out) | exact HB.out)) hb); clear BK131; clear HB; have HO134 := n0_; have BK131 := n1_; have HB := n2_; clear n0_ n1_ n2_; clear hb ho6; obtain ⟨Ao7, co7, eo7⟩ := Kd.R_slice HO134.out; subst eo7) | ((with_reducible refine gate_callee (f := 42) rfl ?_); refine goesL_ (some 12) rfl rfl Try.func42 (by kernel_rfl) rfl #[.slice Ao7 y132.length co7] rfl (by (try simp only [List.map_toArray, List.map_cons, List.map_nil]); first | done | rfl | (simp only [List.length_drop, List.length_take]; rfl)) ?_; (with_reducible refine (rondeauref09_bytes.calls k _ _ y132 t135 _ ?side1 ?side2 A2.out).mono ?_); (case side1 => repeat (first | exact (Kd.R_reads' HO134.out).2.2 | (with_reducible refine Kd.C_alloc ?_ _) | (with_reducible refine Kd.C_drewN ?_ _) | (with_reducible refine Kd.C_drew ?_))); (case side2 => exact (Kd.R_reads' HO134.out).2.1); rintro e w8 ⟨rfl, hb⟩; refine ⟨_, rfl, ?_⟩; have n0_ := Aside0.mk (Kd.R_below (by (with_reducible repeat (first | apply Kd.R_alloc | apply Kd.R_drewN | apply Kd.R_drew)); exact HO134.out) hb); have n1_ := Aside0.mk (blk_below (g := gb131) (o := .cells #[.slice A0_0 l0_0.length c0_0, .slice A0_1 l0_1.length c0_1] 35 (0, 0)) (by (with_reducible repeat (first | refine blk_drewN ?_ _ | refine blk_drew ?_ | refine blk_alloc ?_ _)); exact BK131.out) hb); have n2_ := Aside0.mk (below_step (by repeat (first | (with_reducible first | exact HB.out | apply below_alloc | apply pw_below_drewN | apply below_drew1 | refine below_set ?_ GE131.out) | exact HB.out)) hb); clear HO134; clear BK131; clear HB; have HO134 := n0_; have BK131 := n1_; have HB := n2_; clear n0_ n1_ n2_; (try clear hb); (try clear hb2); (try clear hk); (try clear hi)))
  go_loopg [3, 4] k (fun kq v3 v4 w' => ∃ (x3_1 : ByteArray) (x4_1 : Int), v3 = .string x3_1 ∧ v4 = .int .i64 x4_1 ∧ Aside0 (rondeauref09_Print.l0 kq x3_1 x4_1 l0_0 l0_1 = some r) ∧ Aside0 (kq ≤ k) ∧ Aside0 (w'.heap[gb131]? = some (.cells #[(.slice A0_0 l0_0.length c0_0), (.slice A0_1 l0_1.length c0_1)] 35 (0, 0))) ∧ Aside0 (Below w.heap.size w w'))
  case atStart => exact ⟨(t135), (0), (by first | rfl | (simp; done) | (simp [*]; done)), (by first | rfl | (simp; done) | (simp [*]; done)), H', ⟨Nat.le_refl _⟩, ⟨by (with_reducible repeat (first | refine blk_drewN ?_ _ | refine blk_drew ?_ | refine blk_alloc ?_ _)); exact BK131.out⟩, ⟨by repeat (first | (with_reducible first | exact HB.out | apply below_alloc | apply pw_below_drewN | apply below_drew1 | refine below_set ?_ GE131.out) | exact HB.out)⟩⟩
  case round =>
    clear H'
    try clear c2
    try clear p2
    try clear c4
    try clear hcz4_0
    try clear hcz4_1
    try clear hfz4_0
    try clear hfz4_1
    obtain ⟨x3_1, x4_1, rfl, rfl, HA, HK1, BK131, HB⟩ := hrel
    cases gk with
    | zero => exact absurd HA.out (by simp [rondeauref09_Print.l0])
    | succ k1 =>
      have H := HA.out
      clear HA
      simp only [rondeauref09_Print.l0] at H
      by_cases c9 : x4_1 < (l0_0.length : Int)
      · rw [if_pos c9] at H
        have c9b0 : decide (x4_1 < (l0_0.length : Int)) = true := decide_eq_true c9
        clear c9
        by_cases c10 : 0 ≤ x4_1
        · rw [if_pos c10] at H
          have c10b0 : decide (0 ≤ x4_1) = true := decide_eq_true c10
          clear c10
          obtain ⟨y139, hy139⟩ : ∃ y_ : List Int, y_ = (([(rd_T70 l0_0 x4_1).f0, (rd_T70 l0_0 x4_1).f1, (rd_T70 l0_0 x4_1).f2] : List Int)) := ⟨_, rfl⟩
          replace H : ((rondeauref09_bytes.f k1 y139).bind fun t142 => (if x3_1.size + t142.size ≤ 9223372036854775807 then (rondeauref09_Print.l0 k1 (x3_1 ++ t142) (wrap64 (x4_1 + 1)) l0_0 l0_1) else (none))) = some r := by first | (rw [hy139]; with_reducible exact H) | (have H2_ := (Option.bind_some _ _).symm.trans H; rw [hy139]; with_reducible exact H2_) | (have H2_ := (Option.bind_some _ _).symm.trans H; with_reducible exact H2_) | with_reducible exact H | (rw [hy139]; exact H) | exact H
          have Ny139 := Aside0.mk hy139
          clear hy139
          replace H := Option.bind_eq_some_iff.mp H
          obtain ⟨t142, A110, H⟩ := H
          replace H : (if x3_1.size + t142.size ≤ 9223372036854775807 then (rondeauref09_Print.l0 k1 (x3_1 ++ t142) (wrap64 (x4_1 + 1)) l0_0 l0_1) else (none)) = some r := H
          have A11 := Aside0.mk A110
          clear A110
          by_cases c12 : x3_1.size + t142.size ≤ 9223372036854775807
          · rw [if_pos c12] at H
            have c12b0 := eq_true c12
            have c12b1 : decide (x3_1.size + t142.size ≤ 9223372036854775807) = true := decide_eq_true c12
            try have c12b2 : (9223372036854775807 < x3_1.size + t142.size) = False := eq_false (Nat.not_lt.2 c12)
            have H' := Aside0.mk H
            clear H
            have hcz13_0 : wr.cell? ⟨gb131, 0, none⟩ = some (.slice A0_0 l0_0.length c0_0) := (blk_cell BK131.out 0).trans rfl
            have hcz13_1 : wr.cell? ⟨gb131, 1, none⟩ = some (.slice A0_1 l0_1.length c0_1) := (blk_cell BK131.out 1).trans rfl
            have hfz13_0 := blk_frozen BK131.out 0
            have hfz13_1 := blk_frozen BK131.out 1
            try go_wp2
            have n0_ := Aside0.mk (blk_drew BK131.out)
            have n1_ := Aside0.mk (below_drew1 HB.out)
            clear BK131
            clear HB
            have BK131 := n0_
            have HB := n1_
            clear n0_ n1_
            have p136 : 0 ≤ (x4_1 : Int) := of_decide_eq_true (by first | (with_reducible assumption) | assumption)
            have q136 : x4_1 < (l0_0.length : Int) := of_decide_eq_true (by first | (with_reducible assumption) | assumption)
            obtain ⟨ad136, e136, hx136_0, hx136_1, hx136_2⟩ := at_T70 HR0_0.out x4_1 p136 q136
            have hw136_2 := hx136_2
            have hw136_1 := hx136_1
            have hw136_0 := hx136_0
            cases e136
            replace hx136_0 := (HB.out.cell (World.block_lt_of_cell? w _ hx136_0)).trans hx136_0
            replace hx136_1 := (HB.out.cell (World.block_lt_of_cell? w _ hx136_1)).trans hx136_1
            replace hx136_2 := (HB.out.cell (World.block_lt_of_cell? w _ hx136_2)).trans hx136_2
            replace p136 := eq_true p136
            replace q136 := eq_true q136
            have p137 : 0 ≤ (x4_1 : Int) := of_decide_eq_true (by first | (with_reducible assumption) | assumption)
            have q137 : x4_1 < (l0_0.length : Int) := of_decide_eq_true (by first | (with_reducible assumption) | assumption)
            obtain ⟨ad137, e137, hx137_0, hx137_1, hx137_2⟩ := at_T70 HR0_0.out x4_1 p137 q137
            have hw137_2 := hx137_2
            have hw137_1 := hx137_1
            have hw137_0 := hx137_0
            obtain rfl : ad136 = ad137 := (by injection e137)
            replace hx137_0 := (HB.out.cell (World.block_lt_of_cell? w _ hx137_0)).trans hx137_0
            replace hx137_1 := (HB.out.cell (World.block_lt_of_cell? w _ hx137_1)).trans hx137_1
            replace hx137_2 := (HB.out.cell (World.block_lt_of_cell? w _ hx137_2)).trans hx137_2
            replace p137 := eq_true p137
            replace q137 := eq_true q137
            have p138 : 0 ≤ (x4_1 : Int) := of_decide_eq_true (by first | (with_reducible assumption) | assumption)
            have q138 : x4_1 < (l0_0.length : Int) := of_decide_eq_true (by first | (with_reducible assumption) | assumption)
            obtain ⟨ad138, e138, hx138_0, hx138_1, hx138_2⟩ := at_T70 HR0_0.out x4_1 p138 q138
            have hw138_2 := hx138_2
            have hw138_1 := hx138_1
            have hw138_0 := hx138_0
            obtain rfl : ad136 = ad138 := (by injection e138)
            replace hx138_0 := (HB.out.cell (World.block_lt_of_cell? w _ hx138_0)).trans hx138_0
            replace hx138_1 := (HB.out.cell (World.block_lt_of_cell? w _ hx138_1)).trans hx138_1
            replace hx138_2 := (HB.out.cell (World.block_lt_of_cell? w _ hx138_2)).trans hx138_2
            replace p138 := eq_true p138
            replace q138 := eq_true q138
            refine start_ (n := 23) (S := fun w' => w'.cell? ⟨gb131, 0, none⟩ = some (.slice (some ad136) l0_0.length c0_0) ∧ w'.cell? ⟨gb131, 1, none⟩ = some (.slice A0_1 l0_1.length c0_1) ∧ w'.cell? (ad136.add ((x4_1).toNat * 3)) = some (.int .i64 ((rd_T70 l0_0 x4_1).f0)) ∧ w'.cell? ⟨(ad136.add ((x4_1).toNat * 3)).block, (ad136.add ((x4_1).toNat * 3)).off + 1, none⟩ = some (.int .i64 ((rd_T70 l0_0 x4_1).f1)) ∧ w'.cell? ⟨(ad136.add ((x4_1).toNat * 3)).block, (ad136.add ((x4_1).toNat * 3)).off + 2, none⟩ = some (.int .i64 ((rd_T70 l0_0 x4_1).f2)) ∧ w'.cell? (ad136.add ((x4_1).toNat * 3)) = some (.int .i64 ((rd_T70 l0_0 x4_1).f0)) ∧ w'.cell? ⟨(ad136.add ((x4_1).toNat * 3)).block, (ad136.add ((x4_1).toNat * 3)).off + 1, none⟩ = some (.int .i64 ((rd_T70 l0_0 x4_1).f1)) ∧ w'.cell? ⟨(ad136.add ((x4_1).toNat * 3)).block, (ad136.add ((x4_1).toNat * 3)).off + 2, none⟩ = some (.int .i64 ((rd_T70 l0_0 x4_1).f2)) ∧ w'.cell? (ad136.add ((x4_1).toNat * 3)) = some (.int .i64 ((rd_T70 l0_0 x4_1).f0)) ∧ w'.cell? ⟨(ad136.add ((x4_1).toNat * 3)).block, (ad136.add ((x4_1).toNat * 3)).off + 1, none⟩ = some (.int .i64 ((rd_T70 l0_0 x4_1).f1)) ∧ w'.cell? ⟨(ad136.add ((x4_1).toNat * 3)).block, (ad136.add ((x4_1).toNat * 3)).off + 2, none⟩ = some (.int .i64 ((rd_T70 l0_0 x4_1).f2))) (ds := []) #[false, false, false, false, false, false, false, false, false, false, false, false, false, false, false, false, false, false, false, false, false, false, false] (by kernel_rfl) rfl rfl ⟨(blk_cell BK131.out 0).trans rfl, (blk_cell BK131.out 1).trans rfl, ((HB.out.cell (World.block_lt_of_cell? w _ hw136_0)).trans hw136_0), ((HB.out.cell (World.block_lt_of_cell? w _ hw136_1)).trans hw136_1), ((HB.out.cell (World.block_lt_of_cell? w _ hw136_2)).trans hw136_2), ((HB.out.cell (World.block_lt_of_cell? w _ hw137_0)).trans hw137_0), ((HB.out.cell (World.block_lt_of_cell? w _ hw137_1)).trans hw137_1), ((HB.out.cell (World.block_lt_of_cell? w _ hw137_2)).trans hw137_2), ((HB.out.cell (World.block_lt_of_cell? w _ hw138_0)).trans hw138_0), ((HB.out.cell (World.block_lt_of_cell? w _ hw138_1)).trans hw138_1), ((HB.out.cell (World.block_lt_of_cell? w _ hw138_2)).trans hw138_2)⟩ (fun hHeld => ?_); refine with_tabW rondeauref09_Print.tab5 rondeauref09_Print.bits5 (fun HT_ HW_ => ?_)
            generalize wr.drew = w14 at BK131 HB hx136_0 hx136_1 hx136_2 hx137_0 hx137_1 hx137_2 hx138_0 hx138_1 hx138_2 hHeld ⊢
            refine pure_ (i := 0) (N := some 20) (v := ?_) (a' := ?_) #[true, false, false, false, false, false, false, false, false, false, false, false, false, false, false, false, false, false, false, false, false, false, false] rfl rfl (any_of HT_.out (by kernel_rfl)) (fun _ _ _ h => h) (Or.inl ⟨by rfl, ?_⟩) ?_ ?_
            rotate_left
            · intro w'
              go_simp
              with_reducible rfl
            rotate_left
            · simp only [Act.put, List.setIfInBounds_toArray, List.set_cons_zero, List.set_cons_succ, i64_w, i32_w]
              rfl
            refine pure_ (i := 1) (N := some 21) (v := ?_) (a' := ?_) #[true, true, false, false, false, false, false, false, false, false, false, false, false, false, false, false, false, false, false, false, false, false, false] rfl rfl (any_of HT_.out (by kernel_rfl)) (fun _ _ _ h => h) (Or.inl ⟨by rfl, ?_⟩) ?_ ?_
            rotate_left
            · intro w'
              go_simp
              with_reducible rfl
            rotate_left
            · simp only [Act.put, List.setIfInBounds_toArray, List.set_cons_zero, List.set_cons_succ, i64_w, i32_w]
              rfl
            refine pure_ (i := 3) (N := some 23) (v := ?_) (a' := ?_) #[true, true, false, true, false, false, false, false, false, false, false, false, false, false, false, false, false, false, false, false, false, false, false] rfl rfl (any_of HT_.out (by kernel_rfl)) (fun _ _ _ h => h) (Or.inl ⟨by rfl, ?_⟩) ?_ ?_
            rotate_left
            · intro w'
              go_simp
              with_reducible rfl
            rotate_left
            · simp only [Act.put, List.setIfInBounds_toArray, List.set_cons_zero, List.set_cons_succ, i64_w, i32_w]
              rfl
            refine pure_ (i := 7) (N := some 27) (v := ?_) (a' := ?_) #[true, true, false, true, false, false, false, true, false, false, false, false, false, false, false, false, false, false, false, false, false, false, false] rfl rfl (any_of HT_.out (by kernel_rfl)) (fun _ _ _ h => h) (Or.inl ⟨by rfl, ?_⟩) ?_ ?_
            rotate_left
            · intro w'
              go_simp
              with_reducible rfl
            rotate_left
            · simp only [Act.put, List.setIfInBounds_toArray, List.set_cons_zero, List.set_cons_succ, i64_w, i32_w]
              rfl
            refine pure_ (i := 9) (N := some 29) (v := ?_) (a' := ?_) #[true, true, false, true, false, false, false, true, false, true, false, false, false, false, false, false, false, false, false, false, false, false, false] rfl rfl (any_of HT_.out (by kernel_rfl)) (fun _ _ _ h => h) (Or.inl ⟨by rfl, ?_⟩) ?_ ?_
            rotate_left
            · intro w'
              go_simp
              with_reducible rfl
            rotate_left
            · simp only [Act.put, List.setIfInBounds_toArray, List.set_cons_zero, List.set_cons_succ, i64_w, i32_w]
              rfl
            refine pure_ (i := 13) (N := some 33) (v := ?_) (a' := ?_) #[true, true, false, true, false, false, false, true, false, true, false, false, false, true, false, false, false, false, false, false, false, false, false] rfl rfl (any_of HT_.out (by kernel_rfl)) (fun _ _ _ h => h) (Or.inl ⟨by rfl, ?_⟩) ?_ ?_
            rotate_left
            · intro w'
              go_simp
              with_reducible rfl
            rotate_left
            · simp only [Act.put, List.setIfInBounds_toArray, List.set_cons_zero, List.set_cons_succ, i64_w, i32_w]
              rfl
            refine pure_ (i := 15) (N := some 35) (v := ?_) (a' := ?_) #[true, true, false, true, false, false, false, true, false, true, false, false, false, true, false, true, false, false, false, false, false, false, false] rfl rfl (any_of HT_.out (by kernel_rfl)) (fun _ _ _ h => h) (Or.inl ⟨by rfl, ?_⟩) ?_ ?_
            rotate_left
            · intro w'
              go_simp
              with_reducible rfl
            rotate_left
            · simp only [Act.put, List.setIfInBounds_toArray, List.set_cons_zero, List.set_cons_succ, i64_w, i32_w]
              rfl
            refine take_ (i := 2) (N := some 22) (v := ?_) (a' := ?_) #[true, true, true, true, false, false, false, true, false, true, false, false, false, true, false, true, false, false, false, false, false, false, false] rfl rfl (take_ofW HT_.out HW_.out (by kernel_rfl)) (fun _ _ _ h => h) (Or.inl ⟨by rfl, ?_⟩) hHeld ?_ ?_
            rotate_left
            · rintro w' ⟨s0, s1, s2, s3, s4, s5, s6, s7, s8, s9, s10⟩
              go_simp
              with_reducible rfl
            rotate_left
            · simp only [Act.put, List.setIfInBounds_toArray, List.set_cons_zero, List.set_cons_succ, i64_w, i32_w]
              rfl
            refine pure_ (i := 4) (N := some 24) (v := ?_) (a' := ?_) #[true, true, true, true, true, false, false, true, false, true, false, false, false, true, false, true, false, false, false, false, false, false, false] rfl rfl (any_of HT_.out (by kernel_rfl)) (fun _ _ _ h => h) (Or.inl ⟨by rfl, ?_⟩) ?_ ?_
            rotate_left
            · intro w'
              go_simp
              with_reducible rfl
            rotate_left
            · simp only [Act.put, List.setIfInBounds_toArray, List.set_cons_zero, List.set_cons_succ, i64_w, i32_w]
              rfl
            refine pure_ (i := 5) (N := some 25) (v := ?_) (a' := ?_) #[true, true, true, true, true, true, false, true, false, true, false, false, false, true, false, true, false, false, false, false, false, false, false] rfl rfl (any_of HT_.out (by kernel_rfl)) (fun _ _ _ h => h) (Or.inl ⟨by rfl, ?_⟩) ?_ ?_
            rotate_left
            · intro w'
              go_simp
              with_reducible rfl
            rotate_left
            · simp only [Act.put, List.setIfInBounds_toArray, List.set_cons_zero, List.set_cons_succ, i64_w, i32_w]
              rfl
            refine take_ (i := 6) (N := some 26) (v := ?_) (a' := ?_) #[true, true, true, true, true, true, true, true, false, true, false, false, false, true, false, true, false, false, false, false, false, false, false] rfl rfl (take_ofW HT_.out HW_.out (by kernel_rfl)) (fun _ _ _ h => h) (Or.inl ⟨by rfl, ?_⟩) hHeld ?_ ?_
            rotate_left
            · rintro w' ⟨s0, s1, s2, s3, s4, s5, s6, s7, s8, s9, s10⟩
              go_simp
              with_reducible rfl
            rotate_left
            · simp only [Act.put, List.setIfInBounds_toArray, List.set_cons_zero, List.set_cons_succ, i64_w, i32_w]
              rfl
            refine take_ (i := 8) (N := some 28) (v := ?_) (a' := ?_) #[true, true, true, true, true, true, true, true, true, true, false, false, false, true, false, true, false, false, false, false, false, false, false] rfl rfl (take_ofW HT_.out HW_.out (by kernel_rfl)) (fun _ _ _ h => h) (Or.inl ⟨by rfl, ?_⟩) hHeld ?_ ?_
            rotate_left
            · rintro w' ⟨s0, s1, s2, s3, s4, s5, s6, s7, s8, s9, s10⟩
              go_simp
              with_reducible rfl
            rotate_left
            · simp only [Act.put, List.setIfInBounds_toArray, List.set_cons_zero, List.set_cons_succ, i64_w, i32_w]
              rfl
            refine pure_ (i := 10) (N := some 30) (v := ?_) (a' := ?_) #[true, true, true, true, true, true, true, true, true, true, true, false, false, true, false, true, false, false, false, false, false, false, false] rfl rfl (any_of HT_.out (by kernel_rfl)) (fun _ _ _ h => h) (Or.inl ⟨by rfl, ?_⟩) ?_ ?_
            rotate_left
            · intro w'
              go_simp
              with_reducible rfl
            rotate_left
            · simp only [Act.put, List.setIfInBounds_toArray, List.set_cons_zero, List.set_cons_succ, i64_w, i32_w]
              rfl
            refine pure_ (i := 11) (N := some 31) (v := ?_) (a' := ?_) #[true, true, true, true, true, true, true, true, true, true, true, true, false, true, false, true, false, false, false, false, false, false, false] rfl rfl (any_of HT_.out (by kernel_rfl)) (fun _ _ _ h => h) (Or.inl ⟨by rfl, ?_⟩) ?_ ?_
            rotate_left
            · intro w'
              go_simp
              with_reducible rfl
            rotate_left
            · simp only [Act.put, List.setIfInBounds_toArray, List.set_cons_zero, List.set_cons_succ, i64_w, i32_w]
              rfl
            refine take_ (i := 12) (N := some 32) (v := ?_) (a' := ?_) #[true, true, true, true, true, true, true, true, true, true, true, true, true, true, false, true, false, false, false, false, false, false, false] rfl rfl (take_ofW HT_.out HW_.out (by kernel_rfl)) (fun _ _ _ h => h) (Or.inl ⟨by rfl, ?_⟩) hHeld ?_ ?_
            rotate_left
            · rintro w' ⟨s0, s1, s2, s3, s4, s5, s6, s7, s8, s9, s10⟩
              go_simp
              with_reducible rfl
            rotate_left
            · simp only [Act.put, List.setIfInBounds_toArray, List.set_cons_zero, List.set_cons_succ, i64_w, i32_w]
              rfl
            refine take_ (i := 14) (N := some 34) (v := ?_) (a' := ?_) #[true, true, true, true, true, true, true, true, true, true, true, true, true, true, true, true, false, false, false, false, false, false, false] rfl rfl (take_ofW HT_.out HW_.out (by kernel_rfl)) (fun _ _ _ h => h) (Or.inl ⟨by rfl, ?_⟩) hHeld ?_ ?_
            rotate_left
            · rintro w' ⟨s0, s1, s2, s3, s4, s5, s6, s7, s8, s9, s10⟩
              go_simp
              with_reducible rfl
            rotate_left
            · simp only [Act.put, List.setIfInBounds_toArray, List.set_cons_zero, List.set_cons_succ, i64_w, i32_w]
              rfl
            refine pure_ (i := 16) (N := some 36) (v := ?_) (a' := ?_) #[true, true, true, true, true, true, true, true, true, true, true, true, true, true, true, true, true, false, false, false, false, false, false] rfl rfl (any_of HT_.out (by kernel_rfl)) (fun _ _ _ h => h) (Or.inl ⟨by rfl, ?_⟩) ?_ ?_
            rotate_left
            · intro w'
              go_simp
              with_reducible rfl
            rotate_left
            · simp only [Act.put, List.setIfInBounds_toArray, List.set_cons_zero, List.set_cons_succ, i64_w, i32_w]
              rfl
            refine pure_ (i := 17) (N := some 37) (v := ?_) (a' := ?_) #[true, true, true, true, true, true, true, true, true, true, true, true, true, true, true, true, true, true, false, false, false, false, false] rfl rfl (any_of HT_.out (by kernel_rfl)) (fun _ _ _ h => h) (Or.inl ⟨by rfl, ?_⟩) ?_ ?_
            rotate_left
            · intro w'
              go_simp
              with_reducible rfl
            rotate_left
            · simp only [Act.put, List.setIfInBounds_toArray, List.set_cons_zero, List.set_cons_succ, i64_w, i32_w]
              rfl
            refine take_ (i := 18) (N := some 38) (v := ?_) (a' := ?_) #[true, true, true, true, true, true, true, true, true, true, true, true, true, true, true, true, true, true, true, false, false, false, false] rfl rfl (take_ofW HT_.out HW_.out (by kernel_rfl)) (fun _ _ _ h => h) (Or.inl ⟨by rfl, ?_⟩) hHeld ?_ ?_
            rotate_left
            · rintro w' ⟨s0, s1, s2, s3, s4, s5, s6, s7, s8, s9, s10⟩
              go_simp
              with_reducible rfl
            rotate_left
            · simp only [Act.put, List.setIfInBounds_toArray, List.set_cons_zero, List.set_cons_succ, i64_w, i32_w]
              rfl
            refine one_ (i := 19) (N := some 39) #[true, true, true, true, true, true, true, true, true, true, true, true, true, true, true, true, true, true, true, true, false, false, false] rfl rfl (one_of HT_.out (by kernel_rfl)) (by decide) (fun K hK => ?_)
            refine Kd.R_lit_step (Kd.int .i64) _ 3 ?hg (N := 39) ?hd (xs := ([(rd_T70 l0_0 x4_1).f0, (rd_T70 l0_0 x4_1).f1, (rd_T70 l0_0 x4_1).f2] : List Int)) (inner := [.int .i64 ((rd_T70 l0_0 x4_1).f0), .int .i64 ((rd_T70 l0_0 x4_1).f1), .int .i64 ((rd_T70 l0_0 x4_1).f2)]) (ok := fun _ => True) (okp := fun _ => True) ?hr ?hp (fun _ hk => hk) trivial (Below.refl _ _) (Nat.le_refl _) (by simp) ?_; (case hd => rfl); (case hg => rfl); (case hr => first | (go_simp; done) | (go_simp; rfl)); (case hp => exact (Reps.one (show Kd.M (Kd.int .i64) _ _ _ ((rd_T70 l0_0 x4_1).f0) [.int .i64 ((rd_T70 l0_0 x4_1).f0)] from rfl) (Reps.one (show Kd.M (Kd.int .i64) _ _ _ ((rd_T70 l0_0 x4_1).f1) [.int .i64 ((rd_T70 l0_0 x4_1).f1)] from rfl) (Reps.one (show Kd.M (Kd.int .i64) _ _ _ ((rd_T70 l0_0 x4_1).f2) [.int .i64 ((rd_T70 l0_0 x4_1).f2)] from rfl) (Reps.none _ _)))))
            intro v140 w15 ho16 hb hg_ hnew_
            clear hg_ hnew_
            (first | rw [← Ny139.out] at ho16 | (simp only [Int.reduceToNat] at ho16; rw [← Ny139.out] at ho16))
            have n0_ := Aside0.mk (Kd.R_lower ho16 (below_size (by repeat (first | (with_reducible first | exact HB.out | apply below_alloc | apply pw_below_drewN | apply below_drew1 | refine below_set ?_ GE131.out) | exact HB.out))))
            have n1_ := Aside0.mk (blk_below (g := gb131) (o := .cells #[.slice (some ad136) l0_0.length c0_0, .slice A0_1 l0_1.length c0_1] 35 (0, 0)) (by (with_reducible repeat (first | refine blk_drewN ?_ _ | refine blk_drew ?_ | refine blk_alloc ?_ _)); exact BK131.out) hb)
            have n2_ := Aside0.mk (below_step (by repeat (first | (with_reducible first | exact HB.out | apply below_alloc | apply pw_below_drewN | apply below_drew1 | refine below_set ?_ GE131.out) | exact HB.out)) hb)
            clear BK131
            clear HB
            have HO141 := n0_
            have BK131 := n1_
            have HB := n2_
            clear n0_ n1_ n2_
            clear hb ho16
            obtain ⟨Ao17, co17, eo17⟩ := Kd.R_slice HO141.out
            (first | subst eo17 | (injection eo17 with f1_ f2_ f3_; have f4_ := f1_.symm; have f5_ := f3_.symm; clear f1_ f2_ f3_; subst f4_; subst f5_))
            refine hK.out _ _ ⟨(blk_cell BK131.out 0).trans rfl, (blk_cell BK131.out 1).trans rfl, ((HB.out.cell (World.block_lt_of_cell? w _ hw136_0)).trans hw136_0), ((HB.out.cell (World.block_lt_of_cell? w _ hw136_1)).trans hw136_1), ((HB.out.cell (World.block_lt_of_cell? w _ hw136_2)).trans hw136_2), ((HB.out.cell (World.block_lt_of_cell? w _ hw137_0)).trans hw137_0), ((HB.out.cell (World.block_lt_of_cell? w _ hw137_1)).trans hw137_1), ((HB.out.cell (World.block_lt_of_cell? w _ hw137_2)).trans hw137_2), ((HB.out.cell (World.block_lt_of_cell? w _ hw138_0)).trans hw138_0), ((HB.out.cell (World.block_lt_of_cell? w _ hw138_1)).trans hw138_1), ((HB.out.cell (World.block_lt_of_cell? w _ hw138_2)).trans hw138_2)⟩ (fun hHeld => ?_)
            clear hK K
            refine norm_ (a' := ?_) ?_ ?_
            rotate_left
            · show Act.put _ (some 39) _ = _
              simp only [Act.put, List.setIfInBounds_toArray, List.set_cons_zero, List.set_cons_succ, i64_w, i32_w]
              rfl
            refine one_ (i := 20) (N := some 40) #[true, true, true, true, true, true, true, true, true, true, true, true, true, true, true, true, true, true, true, true, true, false, false] rfl rfl (one_of HT_.out (by kernel_rfl)) (by decide) (fun K hK => ?_)
            refine goes_ Try.func42 (by kernel_rfl) rfl #[.slice Ao17 y139.length co17] (by rfl) rfl rfl (by (try simp only [List.map_toArray, List.map_cons, List.map_nil]); first | done | rfl | (simp only [List.length_drop, List.length_take]; rfl)) ?_
            with_reducible refine (rondeauref09_bytes.calls k1 _ _ y139 t142 _ ?side1 ?side2 A11.out).mono ?_
            (case side1 => repeat (first | exact (Kd.R_reads' HO141.out).2.2 | (with_reducible refine Kd.C_alloc ?_ _) | (with_reducible refine Kd.C_drewN ?_ _) | (with_reducible refine Kd.C_drew ?_)))
            (case side2 => exact (Kd.R_reads' HO141.out).2.1)
            rintro e w18 ⟨rfl, hb⟩
            refine ⟨_, rfl, ?_⟩
            have n0_ := Aside0.mk (Kd.R_below (by (with_reducible repeat (first | apply Kd.R_alloc | apply Kd.R_drewN | apply Kd.R_drew)); exact HO141.out) hb)
            have n1_ := Aside0.mk (blk_below (g := gb131) (o := .cells #[.slice (some ad136) l0_0.length c0_0, .slice A0_1 l0_1.length c0_1] 35 (0, 0)) (by (with_reducible repeat (first | refine blk_drewN ?_ _ | refine blk_drew ?_ | refine blk_alloc ?_ _)); exact BK131.out) hb)
            have n2_ := Aside0.mk (below_step (by repeat (first | (with_reducible first | exact HB.out | apply below_alloc | apply pw_below_drewN | apply below_drew1 | refine below_set ?_ GE131.out) | exact HB.out)) hb)
            clear HO141
            clear BK131
            clear HB
            have HO141 := n0_
            have BK131 := n1_
            have HB := n2_
            clear n0_ n1_ n2_
            (try clear hb)
            (try clear hb2)
            (try clear hk)
            (try clear hi)
            refine hK.out _ _ ⟨(blk_cell BK131.out 0).trans rfl, (blk_cell BK131.out 1).trans rfl, ((HB.out.cell (World.block_lt_of_cell? w _ hw136_0)).trans hw136_0), ((HB.out.cell (World.block_lt_of_cell? w _ hw136_1)).trans hw136_1), ((HB.out.cell (World.block_lt_of_cell? w _ hw136_2)).trans hw136_2), ((HB.out.cell (World.block_lt_of_cell? w _ hw137_0)).trans hw137_0), ((HB.out.cell (World.block_lt_of_cell? w _ hw137_1)).trans hw137_1), ((HB.out.cell (World.block_lt_of_cell? w _ hw137_2)).trans hw137_2), ((HB.out.cell (World.block_lt_of_cell? w _ hw138_0)).trans hw138_0), ((HB.out.cell (World.block_lt_of_cell? w _ hw138_1)).trans hw138_1), ((HB.out.cell (World.block_lt_of_cell? w _ hw138_2)).trans hw138_2)⟩ (fun hHeld => ?_)
            clear hK K
            refine norm_ (a' := ?_) ?_ ?_
            rotate_left
            · show Act.put _ (some 40) _ = _
              simp only [Act.put, List.setIfInBounds_toArray, List.set_cons_zero, List.set_cons_succ, i64_w, i32_w]
              rfl
            refine pure_ (i := 21) (N := some 41) (v := ?_) (a' := ?_) #[true, true, true, true, true, true, true, true, true, true, true, true, true, true, true, true, true, true, true, true, true, true, false] rfl rfl (any_of HT_.out (by kernel_rfl)) (fun _ _ _ h => h) (Or.inl ⟨by rfl, ?_⟩) ?_ ?_
            rotate_left
            · intro w'
              go_simp
              with_reducible rfl
            rotate_left
            · simp only [Act.put, List.setIfInBounds_toArray, List.set_cons_zero, List.set_cons_succ, i64_w, i32_w]
              rfl
            refine pure_ (i := 22) (N := some 3) (v := ?_) (a' := ?_) #[true, true, true, true, true, true, true, true, true, true, true, true, true, true, true, true, true, true, true, true, true, true, true] rfl rfl (any_of HT_.out (by kernel_rfl)) (fun _ _ _ h => h) (Or.inl ⟨by rfl, ?_⟩) ?_ ?_
            rotate_left
            · intro w'
              go_simp
              with_reducible rfl
            rotate_left
            · simp only [Act.put, List.setIfInBounds_toArray, List.set_cons_zero, List.set_cons_succ, i64_w, i32_w]
              rfl
            refine done_ (done_of HT_.out (by kernel_rfl)) ?_
            try go_wp2
            go_roundg k1
            case measure => have := HK1.out; omega
            case rel => exact ⟨(x3_1 ++ t142), (wrap64 (x4_1 + 1)), (by first | rfl | (simp; done) | (simp [*]; done)), (by first | rfl | (simp; done) | (simp [*]; done)), H', ⟨by have := HK1.out; omega⟩, ⟨by (with_reducible repeat (first | refine blk_drewN ?_ _ | refine blk_drew ?_ | refine blk_alloc ?_ _)); exact BK131.out⟩, ⟨by repeat (first | (with_reducible first | exact HB.out | apply below_alloc | apply pw_below_drewN | apply below_drew1 | refine below_set ?_ GE131.out) | exact HB.out)⟩⟩
          · rw [if_neg c12] at H
            exact absurd H (by simp)
        · rw [if_neg c10] at H
          exact absurd H (by simp)
      · rw [if_neg c9] at H
        have c9b0 : decide (x4_1 < (l0_0.length : Int)) = false := decide_eq_false c9
        clear c9
        obtain ⟨y143, hy143⟩ : ∃ y_ : List Int, y_ = (([(l0_1.length : Int)] : List Int)) := ⟨_, rfl⟩
        replace H : ((rondeauref09_bytes.f k1 y143).bind fun t146 => (if x3_1.size + t146.size ≤ 9223372036854775807 then (rondeauref09_Print.l1 k1 (x3_1 ++ t146) 0 l0_0 l0_1) else (none))) = some r := by first | (rw [hy143]; with_reducible exact H) | (have H2_ := (Option.bind_some _ _).symm.trans H; rw [hy143]; with_reducible exact H2_) | (have H2_ := (Option.bind_some _ _).symm.trans H; with_reducible exact H2_) | with_reducible exact H | (rw [hy143]; exact H) | exact H
        have Ny143 := Aside0.mk hy143
        clear hy143
        replace H := Option.bind_eq_some_iff.mp H
        obtain ⟨t146, A190, H⟩ := H
        replace H : (if x3_1.size + t146.size ≤ 9223372036854775807 then (rondeauref09_Print.l1 k1 (x3_1 ++ t146) 0 l0_0 l0_1) else (none)) = some r := H
        have A19 := Aside0.mk A190
        clear A190
        by_cases c20 : x3_1.size + t146.size ≤ 9223372036854775807
        · rw [if_pos c20] at H
          have c20b0 := eq_true c20
          have c20b1 : decide (x3_1.size + t146.size ≤ 9223372036854775807) = true := decide_eq_true c20
          try have c20b2 : (9223372036854775807 < x3_1.size + t146.size) = False := eq_false (Nat.not_lt.2 c20)
          have H' := Aside0.mk H
          clear H
          have hcz21_0 : wr.cell? ⟨gb131, 0, none⟩ = some (.slice A0_0 l0_0.length c0_0) := (blk_cell BK131.out 0).trans rfl
          have hcz21_1 : wr.cell? ⟨gb131, 1, none⟩ = some (.slice A0_1 l0_1.length c0_1) := (blk_cell BK131.out 1).trans rfl
          have hfz21_0 := blk_frozen BK131.out 0
          have hfz21_1 := blk_frozen BK131.out 1
          go_wp2_with (first | ((with_reducible refine gate_dst (N := 46) rfl ?_); refine Kd.R_lit (Kd.int .i64) _ 3 ?hg (N := 46) ?hd (xs := ([(l0_1.length : Int)] : List Int)) (inner := [.int .i64 (l0_1.length : Int)]) (ok := fun _ => True) (okp := fun _ => True) ?hr ?hp (fun _ hk => hk) trivial (Below.refl _ _) (Nat.le_refl _) (by simp) ?_; (case hd => rfl); (case hg => rfl); (case hr => first | (go_simp; done) | (go_simp; rfl)); (case hp => exact (Reps.one (show Kd.M (Kd.int .i64) _ _ _ (l0_1.length : Int) [.int .i64 (l0_1.length : Int)] from rfl) (Reps.none _ _))); intro v144 w22 ho23 hb hg_ hnew_; clear hg_ hnew_; (first | rw [← Ny143.out] at ho23 | (simp only [Int.reduceToNat] at ho23; rw [← Ny143.out] at ho23)); have n0_ := Aside0.mk (Kd.R_lower ho23 (below_size (by repeat (first | (with_reducible first | exact HB.out | apply below_alloc | apply pw_below_drewN | apply below_drew1 | refine below_set ?_ GE131.out) | exact HB.out)))); have n1_ := Aside0.mk (blk_below (g := gb131) (o := .cells #[.slice A0_0 l0_0.length c0_0, .slice A0_1 l0_1.length c0_1] 35 (0, 0)) (by (with_reducible repeat (first | refine blk_drewN ?_ _ | refine blk_drew ?_ | refine blk_alloc ?_ _)); exact BK131.out) hb); have n2_ := Aside0.mk (below_step (by repeat (first | (with_reducible first | exact HB.out | apply below_alloc | apply pw_below_drewN | apply below_drew1 | refine below_set ?_ GE131.out) | exact HB.out)) hb); clear BK131; clear HB; have HO145 := n0_; have BK131 := n1_; have HB := n2_; clear n0_ n1_ n2_; clear hb ho23; obtain ⟨Ao24, co24, eo24⟩ := Kd.R_slice HO145.out; subst eo24) | ((with_reducible refine gate_callee (f := 42) rfl ?_); refine goesL_ (some 47) rfl rfl Try.func42 (by kernel_rfl) rfl #[.slice Ao24 y143.length co24] rfl (by (try simp only [List.map_toArray, List.map_cons, List.map_nil]); first | done | rfl | (simp only [List.length_drop, List.length_take]; rfl)) ?_; (with_reducible refine (rondeauref09_bytes.calls k1 _ _ y143 t146 _ ?side1 ?side2 A19.out).mono ?_); (case side1 => repeat (first | exact (Kd.R_reads' HO145.out).2.2 | (with_reducible refine Kd.C_alloc ?_ _) | (with_reducible refine Kd.C_drewN ?_ _) | (with_reducible refine Kd.C_drew ?_))); (case side2 => exact (Kd.R_reads' HO145.out).2.1); rintro e w25 ⟨rfl, hb⟩; refine ⟨_, rfl, ?_⟩; have n0_ := Aside0.mk (Kd.R_below (by (with_reducible repeat (first | apply Kd.R_alloc | apply Kd.R_drewN | apply Kd.R_drew)); exact HO145.out) hb); have n1_ := Aside0.mk (blk_below (g := gb131) (o := .cells #[.slice A0_0 l0_0.length c0_0, .slice A0_1 l0_1.length c0_1] 35 (0, 0)) (by (with_reducible repeat (first | refine blk_drewN ?_ _ | refine blk_drew ?_ | refine blk_alloc ?_ _)); exact BK131.out) hb); have n2_ := Aside0.mk (below_step (by repeat (first | (with_reducible first | exact HB.out | apply below_alloc | apply pw_below_drewN | apply below_drew1 | refine below_set ?_ GE131.out) | exact HB.out)) hb); clear HO145; clear BK131; clear HB; have HO145 := n0_; have BK131 := n1_; have HB := n2_; clear n0_ n1_ n2_; (try clear hb); (try clear hb2); (try clear hk); (try clear hi)))
          go_loopg [3, 5] k1 (fun kq v3 v5 w' => ∃ (x3_2 : ByteArray) (x5_2 : Int), v3 = .string x3_2 ∧ v5 = .int .i64 x5_2 ∧ Aside0 (rondeauref09_Print.l1 kq x3_2 x5_2 l0_0 l0_1 = some r) ∧ Aside0 (kq ≤ k1) ∧ Aside0 (w'.heap[gb131]? = some (.cells #[(.slice A0_0 l0_0.length c0_0), (.slice A0_1 l0_1.length c0_1)] 35 (0, 0))) ∧ Aside0 (Below w.heap.size w w'))
          case atStart => exact ⟨(x3_1 ++ t146), (0), (by first | rfl | (simp; done) | (simp [*]; done)), (by first | rfl | (simp; done) | (simp [*]; done)), H', ⟨Nat.le_refl _⟩, ⟨by (with_reducible repeat (first | refine blk_drewN ?_ _ | refine blk_drew ?_ | refine blk_alloc ?_ _)); exact BK131.out⟩, ⟨by repeat (first | (with_reducible first | exact HB.out | apply below_alloc | apply pw_below_drewN | apply below_drew1 | refine below_set ?_ GE131.out) | exact HB.out)⟩⟩
          case round =>
            clear H'
            try clear c1
            try clear p1
            try clear q1
            try clear hx1
            try clear c2
            try clear p2
            try clear c4
            try clear p6
            try clear c9
            try clear c9b0
            try clear c10
            try clear c10b0
            try clear c12
            try clear c12b0
            try clear c12b1
            try clear c12b2
            try clear p13
            try clear q13
            try clear hx13
            try clear c20
            try clear c20b0
            try clear c20b1
            try clear c20b2
            try clear c23
            try clear hcz13_0
            try clear hcz13_1
            try clear hcz21_0
            try clear hcz21_1
            try clear hcz4_0
            try clear hcz4_1
            try clear hfz13_0
            try clear hfz13_1
            try clear hfz21_0
            try clear hfz21_1
            try clear hfz4_0
            try clear hfz4_1
            try clear hx136_0
            try clear hx136_1
            try clear hx136_2
            try clear hx137_0
            try clear hx137_1
            try clear hx137_2
            try clear hx138_0
            try clear hx138_1
            try clear hx138_2
            try clear p136
            try clear p137
            try clear p138
            try clear p2
            try clear q136
            try clear q137
            try clear q138
            obtain ⟨x3_2, x5_2, rfl, rfl, HA, HK2, BK131, HB⟩ := hrel
            cases gk with
            | zero => exact absurd HA.out (by simp [rondeauref09_Print.l1])
            | succ k2 =>
              have H := HA.out
              clear HA
              simp only [rondeauref09_Print.l1] at H
              by_cases c26 : x5_2 < (l0_1.length : Int)
              · rw [if_pos c26] at H
                have c26b0 : decide (x5_2 < (l0_1.length : Int)) = true := decide_eq_true c26
                clear c26
                by_cases c27 : 0 ≤ x5_2
                · rw [if_pos c27] at H
                  have c27b0 : decide (0 ≤ x5_2) = true := decide_eq_true c27
                  clear c27
                  replace H := Option.bind_eq_some_iff.mp H
                  obtain ⟨t148, A280, H⟩ := H
                  replace H : (if x3_2.size + t148.size ≤ 9223372036854775807 then (rondeauref09_Print.l2 k2 (x3_2 ++ t148) x5_2 0 l0_0 l0_1) else (none)) = some r := H
                  have A28 := Aside0.mk A280
                  clear A280
                  by_cases c29 : x3_2.size + t148.size ≤ 9223372036854775807
                  · rw [if_pos c29] at H
                    have c29b0 := eq_true c29
                    have c29b1 : decide (x3_2.size + t148.size ≤ 9223372036854775807) = true := decide_eq_true c29
                    try have c29b2 : (9223372036854775807 < x3_2.size + t148.size) = False := eq_false (Nat.not_lt.2 c29)
                    have H' := Aside0.mk H
                    clear H
                    have hcz30_0 : wr.cell? ⟨gb131, 0, none⟩ = some (.slice A0_0 l0_0.length c0_0) := (blk_cell BK131.out 0).trans rfl
                    have hcz30_1 : wr.cell? ⟨gb131, 1, none⟩ = some (.slice A0_1 l0_1.length c0_1) := (blk_cell BK131.out 1).trans rfl
                    have hfz30_0 := blk_frozen BK131.out 0
                    have hfz30_1 := blk_frozen BK131.out 1
                    have p147 : 0 ≤ (x5_2 : Int) := of_decide_eq_true (by first | (with_reducible assumption) | assumption)
                    have q147 : x5_2 < (l0_1.length : Int) := of_decide_eq_true (by first | (with_reducible assumption) | assumption)
                    obtain ⟨ad147, A147_0, c147_0, e147, hx147_0, hl147_0, hi147_0⟩ := at_L4 HR0_1.out x5_2 p147 q147
                    cases e147
                    replace hx147_0 := (HB.out.cell (World.block_lt_of_cell? w _ hx147_0)).trans hx147_0
                    have HR147_0 := Aside0.mk hi147_0
                    have HC147_0 := Aside0.mk hl147_0
                    clear hi147_0 hl147_0
                    replace p147 := eq_true p147
                    replace q147 := eq_true q147
                    go_wp2_with (first | ((with_reducible refine gate_callee (f := 43) rfl ?_); refine goesL_ (some 64) rfl rfl Try.func43 (by kernel_rfl) rfl #[.int .u64 (IntKind.u64.wrap (((rd_L4 l0_1 x5_2).length : Int)))] rfl (by (try simp only [List.map_toArray, List.map_cons, List.map_nil]); first | done | rfl | (simp only [List.length_drop, List.length_take]; rfl)) ?_; (with_reducible refine (rondeauref02_Print.calls k2 (IntKind.u64.wrap (((rd_L4 l0_1 x5_2).length : Int))) t148 _ A28.out).mono ?_); rintro e w31 ⟨rfl, hb⟩; refine ⟨_, rfl, ?_⟩; have n0_ := Aside0.mk (blk_below (g := gb131) (o := .cells #[.slice A0_0 l0_0.length c0_0, .slice (some ad147) l0_1.length c0_1] 35 (0, 0)) (by (with_reducible repeat (first | refine blk_drewN ?_ _ | refine blk_drew ?_ | refine blk_alloc ?_ _)); exact BK131.out) hb); have n1_ := Aside0.mk (below_step (by repeat (first | (with_reducible first | exact HB.out | apply below_alloc | apply pw_below_drewN | apply below_drew1 | refine below_set ?_ GE131.out) | exact HB.out)) hb); clear BK131; clear HB; have BK131 := n0_; have HB := n1_; clear n0_ n1_; (try clear hb); (try clear hb2); (try clear hk); (try clear hi)))
                    go_loopg [3, 6] k2 (fun kq v3 v6 w' => ∃ (x3_3 : ByteArray) (x6_3 : Int), v3 = .string x3_3 ∧ v6 = .int .i64 x6_3 ∧ Aside0 (rondeauref09_Print.l2 kq x3_3 x5_2 x6_3 l0_0 l0_1 = some r) ∧ Aside0 (kq ≤ k2) ∧ Aside0 (w'.heap[gb131]? = some (.cells #[(.slice A0_0 l0_0.length c0_0), (.slice (some ad147) l0_1.length c0_1)] 35 (0, 0))) ∧ Aside0 (Below w.heap.size w w'))
                    case atStart => exact ⟨(x3_2 ++ t148), (0), (by first | rfl | (simp; done) | (simp [*]; done)), (by first | rfl | (simp; done) | (simp [*]; done)), H', ⟨Nat.le_refl _⟩, ⟨by (with_reducible repeat (first | refine blk_drewN ?_ _ | refine blk_drew ?_ | refine blk_alloc ?_ _)); exact BK131.out⟩, ⟨by repeat (first | (with_reducible first | exact HB.out | apply below_alloc | apply pw_below_drewN | apply below_drew1 | refine below_set ?_ GE131.out) | exact HB.out)⟩⟩
                    case round =>
                      clear H'
                      try clear c1
                      try clear p1
                      try clear q1
                      try clear hx1
                      try clear c2
                      try clear p2
                      try clear c4
                      try clear p6
                      try clear c9
                      try clear c9b0
                      try clear c10
                      try clear c10b0
                      try clear c12
                      try clear c12b0
                      try clear c12b1
                      try clear c12b2
                      try clear p13
                      try clear q13
                      try clear hx13
                      try clear c14
                      try clear p14
                      try clear q14
                      try clear hx14
                      try clear c20
                      try clear c20b0
                      try clear c20b1
                      try clear c20b2
                      try clear c23
                      try clear c26
                      try clear c26b0
                      try clear c27
                      try clear c27b0
                      try clear c29
                      try clear c29b0
                      try clear c29b1
                      try clear c29b2
                      try clear hcz13_0
                      try clear hcz13_1
                      try clear hcz21_0
                      try clear hcz21_1
                      try clear hcz30_0
                      try clear hcz30_1
                      try clear hcz4_0
                      try clear hcz4_1
                      try clear hfz13_0
                      try clear hfz13_1
                      try clear hfz21_0
                      try clear hfz21_1
                      try clear hfz30_0
                      try clear hfz30_1
                      try clear hfz4_0
                      try clear hfz4_1
                      try clear hx136_0
                      try clear hx136_1
                      try clear hx136_2
                      try clear hx137_0
                      try clear hx137_1
                      try clear hx137_2
                      try clear hx138_0
                      try clear hx138_1
                      try clear hx138_2
                      try clear hx147_0
                      try clear p1
                      try clear p13
                      try clear p136
                      try clear p137
                      try clear p138
                      try clear p147
                      try clear p2
                      try clear p6
                      try clear q1
                      try clear q13
                      try clear q136
                      try clear q137
                      try clear q138
                      try clear q147
                      obtain ⟨x3_3, x6_3, rfl, rfl, HA, HK3, BK131, HB⟩ := hrel
                      cases gk with
                      | zero => exact absurd HA.out (by simp [rondeauref09_Print.l2])
                      | succ k3 =>
                        have H := HA.out
                        clear HA
                        simp only [rondeauref09_Print.l2] at H
                        by_cases c32 : 0 ≤ x5_2
                        · rw [if_pos c32] at H
                          have c32b0 : decide (0 ≤ x5_2) = true := decide_eq_true c32
                          clear c32
                          by_cases c33 : x5_2 < (l0_1.length : Int)
                          · rw [if_pos c33] at H
                            have c33b0 : decide (x5_2 < (l0_1.length : Int)) = true := decide_eq_true c33
                            clear c33
                            by_cases c34 : x6_3 < ((rd_L4 l0_1 x5_2).length : Int)
                            · rw [if_pos c34] at H
                              have c34b0 : decide (x6_3 < ((rd_L4 l0_1 x5_2).length : Int)) = true := decide_eq_true c34
                              clear c34
                              by_cases c35 : 0 ≤ x6_3
                              · rw [if_pos c35] at H
                                have c35b0 : decide (0 ≤ x6_3) = true := decide_eq_true c35
                                clear c35
                                obtain ⟨y153, hy153⟩ : ∃ y_ : List Int, y_ = (([(rd_T24 (rd_L4 l0_1 x5_2) x6_3).f0, (rd_T24 (rd_L4 l0_1 x5_2) x6_3).f1, (rd_T24 (rd_L4 l0_1 x5_2) x6_3).f2, (rd_T24 (rd_L4 l0_1 x5_2) x6_3).f3, (rd_T24 (rd_L4 l0_1 x5_2) x6_3).f4] : List Int)) := ⟨_, rfl⟩
                                replace H : ((rondeauref09_bytes.f k3 y153).bind fun t156 => ((rondeauref02_Print.f k3 ((rd_T24 (rd_L4 l0_1 x5_2) x6_3).f5)).bind fun t157 => (if t156.size + t157.size ≤ 9223372036854775807 then (if x3_3.size + (t156.size + t157.size) ≤ 9223372036854775807 then (rondeauref09_Print.l2 k3 (x3_3 ++ (t156 ++ t157)) x5_2 (wrap64 (x6_3 + 1)) l0_0 l0_1) else (none)) else (none)))) = some r := by first | (rw [hy153]; with_reducible exact H) | (have H2_ := (Option.bind_some _ _).symm.trans H; rw [hy153]; with_reducible exact H2_) | (have H2_ := (Option.bind_some _ _).symm.trans H; with_reducible exact H2_) | with_reducible exact H | (rw [hy153]; exact H) | exact H
                                have Ny153 := Aside0.mk hy153
                                clear hy153
                                replace H := Option.bind_eq_some_iff.mp H
                                obtain ⟨t156, A360, H⟩ := H
                                replace H : ((rondeauref02_Print.f k3 ((rd_T24 (rd_L4 l0_1 x5_2) x6_3).f5)).bind fun t157 => (if t156.size + t157.size ≤ 9223372036854775807 then (if x3_3.size + (t156.size + t157.size) ≤ 9223372036854775807 then (rondeauref09_Print.l2 k3 (x3_3 ++ (t156 ++ t157)) x5_2 (wrap64 (x6_3 + 1)) l0_0 l0_1) else (none)) else (none))) = some r := H
                                have A36 := Aside0.mk A360
                                clear A360
                                replace H := Option.bind_eq_some_iff.mp H
                                obtain ⟨t157, A370, H⟩ := H
                                replace H : (if t156.size + t157.size ≤ 9223372036854775807 then (if x3_3.size + (t156.size + t157.size) ≤ 9223372036854775807 then (rondeauref09_Print.l2 k3 (x3_3 ++ (t156 ++ t157)) x5_2 (wrap64 (x6_3 + 1)) l0_0 l0_1) else (none)) else (none)) = some r := H
                                have A37 := Aside0.mk A370
                                clear A370
                                by_cases c38 : t156.size + t157.size ≤ 9223372036854775807
                                · rw [if_pos c38] at H
                                  have c38b0 := eq_true c38
                                  have c38b1 : decide (t156.size + t157.size ≤ 9223372036854775807) = true := decide_eq_true c38
                                  try have c38b2 : (9223372036854775807 < t156.size + t157.size) = False := eq_false (Nat.not_lt.2 c38)
                                  by_cases c39 : x3_3.size + (t156.size + t157.size) ≤ 9223372036854775807
                                  · rw [if_pos c39] at H
                                    have c39b0 := eq_true c39
                                    have c39b1 : decide (x3_3.size + (t156.size + t157.size) ≤ 9223372036854775807) = true := decide_eq_true c39
                                    try have c39b2 : (9223372036854775807 < x3_3.size + (t156.size + t157.size)) = False := eq_false (Nat.not_lt.2 c39)
                                    have H' := Aside0.mk H
                                    clear H
                                    have hcz40_0 : wr.cell? ⟨gb131, 0, none⟩ = some (.slice A0_0 l0_0.length c0_0) := (blk_cell BK131.out 0).trans rfl
                                    have hcz40_1 : wr.cell? ⟨gb131, 1, none⟩ = some (.slice (some ad147) l0_1.length c0_1) := (blk_cell BK131.out 1).trans rfl
                                    have hfz40_0 := blk_frozen BK131.out 0
                                    have hfz40_1 := blk_frozen BK131.out 1
                                    have p149 : 0 ≤ (x5_2 : Int) := of_decide_eq_true (by first | (with_reducible assumption) | assumption)
                                    have q149 : x5_2 < (l0_1.length : Int) := of_decide_eq_true (by first | (with_reducible assumption) | assumption)
                                    obtain ⟨ad149, A149_0, c149_0, e149, hx149_0, hl149_0, hi149_0⟩ := at_L4 HR0_1.out x5_2 p149 q149
                                    obtain rfl : ad147 = ad149 := (by injection e149)
                                    replace hx149_0 := (HB.out.cell (World.block_lt_of_cell? w _ hx149_0)).trans hx149_0
                                    have HR149_0 := Aside0.mk hi149_0
                                    have HC149_0 := Aside0.mk hl149_0
                                    clear hi149_0 hl149_0
                                    replace p149 := eq_true p149
                                    replace q149 := eq_true q149
                                    have p150 : 0 ≤ (x5_2 : Int) := of_decide_eq_true (by first | (with_reducible assumption) | assumption)
                                    have q150 : x5_2 < (l0_1.length : Int) := of_decide_eq_true (by first | (with_reducible assumption) | assumption)
                                    obtain ⟨ad150, A150_0, c150_0, e150, hx150_0, hl150_0, hi150_0⟩ := at_L4 HR0_1.out x5_2 p150 q150
                                    obtain rfl : ad147 = ad150 := (by injection e150)
                                    replace hx150_0 := (HB.out.cell (World.block_lt_of_cell? w _ hx150_0)).trans hx150_0
                                    have HR150_0 := Aside0.mk hi150_0
                                    have HC150_0 := Aside0.mk hl150_0
                                    clear hi150_0 hl150_0
                                    replace p150 := eq_true p150
                                    replace q150 := eq_true q150
                                    have ea_ := Option.some.inj (hx149_0.symm.trans hx150_0)
                                    injection ea_ with ea_ en_ ec_
                                    subst ea_
                                    subst ec_
                                    clear en_
                                    have p151 : 0 ≤ (x6_3 : Int) := of_decide_eq_true (by first | (with_reducible assumption) | assumption)
                                    have q151 : x6_3 < ((rd_L4 l0_1 x5_2).length : Int) := of_decide_eq_true (by first | (with_reducible assumption) | assumption)
                                    obtain ⟨ad151, e151, hx151_0, hx151_1, hx151_2, hx151_3, hx151_4, hx151_5⟩ := at_T24 HR150_0.out x6_3 p151 q151
                                    cases e151
                                    replace hx151_0 := (HB.out.cell (World.block_lt_of_cell? w _ hx151_0)).trans hx151_0
                                    replace hx151_1 := (HB.out.cell (World.block_lt_of_cell? w _ hx151_1)).trans hx151_1
                                    replace hx151_2 := (HB.out.cell (World.block_lt_of_cell? w _ hx151_2)).trans hx151_2
                                    replace hx151_3 := (HB.out.cell (World.block_lt_of_cell? w _ hx151_3)).trans hx151_3
                                    replace hx151_4 := (HB.out.cell (World.block_lt_of_cell? w _ hx151_4)).trans hx151_4
                                    replace hx151_5 := (HB.out.cell (World.block_lt_of_cell? w _ hx151_5)).trans hx151_5
                                    replace p151 := eq_true p151
                                    replace q151 := eq_true q151
                                    try go_wp2_with (first | ((with_reducible refine gate_dst (N := 7) rfl ?_); refine box_event ?hg (N := 7) ?hd (cs := #[.int .i64 0, .int .i64 0, .int .i64 0, .int .i64 0, .int .i64 0, .int .u64 0]) (t := 24) ?hr ?_; (case hd => rfl); (case hg => rfl); (case hr => first | (go_simp; done) | (go_simp; rfl)); intro gb152 hg w41 hbox hb; have n0_ := Aside0.mk (blk_below (g := gb131) (o := .cells #[.slice A0_0 l0_0.length c0_0, .slice (some ad147) l0_1.length c0_1] 35 (0, 0)) (by (with_reducible repeat (first | refine blk_drewN ?_ _ | refine blk_drew ?_ | refine blk_alloc ?_ _)); exact BK131.out) hb); have n1_ := Aside0.mk (below_step (by repeat (first | (with_reducible first | exact HB.out | apply below_alloc | apply pw_below_drewN | apply below_drew1 | refine below_set ?_ GE131.out) | exact HB.out)) hb); have n2_ := Aside0.mk (hbox); have n3_ := Aside0.mk ((by rw [hg]; exact (below_size (by repeat (first | (with_reducible first | exact HB.out | apply below_alloc | apply pw_below_drewN | apply below_drew1 | refine below_set ?_ GE131.out) | exact HB.out))) : w.heap.size ≤ gb152)); have n4_ := Aside0.mk ((by rw [hg]; exact (below_size (by repeat (first | (with_reducible first | exact HB.out | apply below_alloc | apply pw_below_drewN | apply below_drew1 | refine below_set ?_ GE131.out) | exact HB.out))) : w.heap.size ≤ gb152)); have n5_ := Aside0.mk ((by rw [hg]; exact Nat.ne_of_lt (blk_lt (g := gb131) (o := .cells #[.slice A0_0 l0_0.length c0_0, .slice (some ad147) l0_1.length c0_1] 35 (0, 0)) (by (with_reducible repeat (first | refine blk_drewN ?_ _ | refine blk_drew ?_ | refine blk_alloc ?_ _)); exact BK131.out)) : gb131 ≠ gb152)); have n6_ := Aside0.mk ((by rw [hg]; exact Nat.ne_of_gt (blk_lt (g := gb131) (o := .cells #[.slice A0_0 l0_0.length c0_0, .slice (some ad147) l0_1.length c0_1] 35 (0, 0)) (by (with_reducible repeat (first | refine blk_drewN ?_ _ | refine blk_drew ?_ | refine blk_alloc ?_ _)); exact BK131.out)) : gb152 ≠ gb131)); clear BK131; clear HB; have BK131 := n0_; have HB := n1_; have BK152 := n2_; have GW152 := n3_; have GE152 := n4_; have NB131_152 := n5_; have NB152_131 := n6_; clear n0_ n1_ n2_ n3_ n4_ n5_ n6_; clear hb hbox hg; have hnb42 := NB152_131.out; have hnc42 := NB131_152.out; have hcz43_0 : w41.cell? ⟨gb152, 0, none⟩ = some (.int .i64 0) := (blk_cell BK152.out 0).trans rfl; have hcz43_1 : w41.cell? ⟨gb152, 1, none⟩ = some (.int .i64 0) := (blk_cell BK152.out 1).trans rfl; have hcz43_2 : w41.cell? ⟨gb152, 2, none⟩ = some (.int .i64 0) := (blk_cell BK152.out 2).trans rfl; have hcz43_3 : w41.cell? ⟨gb152, 3, none⟩ = some (.int .i64 0) := (blk_cell BK152.out 3).trans rfl; have hcz43_4 : w41.cell? ⟨gb152, 4, none⟩ = some (.int .i64 0) := (blk_cell BK152.out 4).trans rfl; have hcz43_5 : w41.cell? ⟨gb152, 5, none⟩ = some (.int .u64 0) := (blk_cell BK152.out 5).trans rfl; have hfz43_0 := blk_frozen BK152.out 0; have hfz43_1 := blk_frozen BK152.out 1; have hfz43_2 := blk_frozen BK152.out 2; have hfz43_3 := blk_frozen BK152.out 3; have hfz43_4 := blk_frozen BK152.out 4; have hfz43_5 := blk_frozen BK152.out 5))
                                    have n0_ : Aside0 (((((((w41.setCell ⟨gb152, 0, none⟩ (.int .i64 ((rd_T24 (rd_L4 l0_1 x5_2) x6_3).f0))).setCell ⟨gb152, 1, none⟩ (.int .i64 ((rd_T24 (rd_L4 l0_1 x5_2) x6_3).f1))).setCell ⟨gb152, 2, none⟩ (.int .i64 ((rd_T24 (rd_L4 l0_1 x5_2) x6_3).f2))).setCell ⟨gb152, 3, none⟩ (.int .i64 ((rd_T24 (rd_L4 l0_1 x5_2) x6_3).f3))).setCell ⟨gb152, 4, none⟩ (.int .i64 ((rd_T24 (rd_L4 l0_1 x5_2) x6_3).f4))).setCell ⟨gb152, 5, none⟩ (.int .u64 ((rd_T24 (rd_L4 l0_1 x5_2) x6_3).f5))).heap[gb131]? = some (.cells #[.slice A0_0 l0_0.length c0_0, .slice (some ad147) l0_1.length c0_1] 35 (0, 0))) := ⟨by (with_reducible repeat (first | refine blk_drewN ?_ _ | refine blk_drew ?_ | refine blk_alloc ?_ _)); refine blk_far ?_ NB131_152.out _; (with_reducible repeat (first | refine blk_drewN ?_ _ | refine blk_drew ?_ | refine blk_alloc ?_ _)); refine blk_far ?_ NB131_152.out _; (with_reducible repeat (first | refine blk_drewN ?_ _ | refine blk_drew ?_ | refine blk_alloc ?_ _)); refine blk_far ?_ NB131_152.out _; (with_reducible repeat (first | refine blk_drewN ?_ _ | refine blk_drew ?_ | refine blk_alloc ?_ _)); refine blk_far ?_ NB131_152.out _; (with_reducible repeat (first | refine blk_drewN ?_ _ | refine blk_drew ?_ | refine blk_alloc ?_ _)); refine blk_far ?_ NB131_152.out _; (with_reducible repeat (first | refine blk_drewN ?_ _ | refine blk_drew ?_ | refine blk_alloc ?_ _)); refine blk_far ?_ NB131_152.out _; (with_reducible repeat (first | refine blk_drewN ?_ _ | refine blk_drew ?_ | refine blk_alloc ?_ _)); exact BK131.out⟩
                                    have n1_ : Aside0 (((((((w41.setCell ⟨gb152, 0, none⟩ (.int .i64 ((rd_T24 (rd_L4 l0_1 x5_2) x6_3).f0))).setCell ⟨gb152, 1, none⟩ (.int .i64 ((rd_T24 (rd_L4 l0_1 x5_2) x6_3).f1))).setCell ⟨gb152, 2, none⟩ (.int .i64 ((rd_T24 (rd_L4 l0_1 x5_2) x6_3).f2))).setCell ⟨gb152, 3, none⟩ (.int .i64 ((rd_T24 (rd_L4 l0_1 x5_2) x6_3).f3))).setCell ⟨gb152, 4, none⟩ (.int .i64 ((rd_T24 (rd_L4 l0_1 x5_2) x6_3).f4))).setCell ⟨gb152, 5, none⟩ (.int .u64 ((rd_T24 (rd_L4 l0_1 x5_2) x6_3).f5))).heap[gb152]? = some (.cells #[.int .i64 ((rd_T24 (rd_L4 l0_1 x5_2) x6_3).f0), .int .i64 ((rd_T24 (rd_L4 l0_1 x5_2) x6_3).f1), .int .i64 ((rd_T24 (rd_L4 l0_1 x5_2) x6_3).f2), .int .i64 ((rd_T24 (rd_L4 l0_1 x5_2) x6_3).f3), .int .i64 ((rd_T24 (rd_L4 l0_1 x5_2) x6_3).f4), .int .u64 ((rd_T24 (rd_L4 l0_1 x5_2) x6_3).f5)] 24 (0, 0))) := ⟨by (with_reducible repeat (first | refine blk_drewN ?_ _ | refine blk_drew ?_ | refine blk_alloc ?_ _)); refine blk_put (cs := #[.int .i64 ((rd_T24 (rd_L4 l0_1 x5_2) x6_3).f0), .int .i64 ((rd_T24 (rd_L4 l0_1 x5_2) x6_3).f1), .int .i64 ((rd_T24 (rd_L4 l0_1 x5_2) x6_3).f2), .int .i64 ((rd_T24 (rd_L4 l0_1 x5_2) x6_3).f3), .int .i64 ((rd_T24 (rd_L4 l0_1 x5_2) x6_3).f4), .int .u64 0]) ?_ 5 _ rfl; (with_reducible repeat (first | refine blk_drewN ?_ _ | refine blk_drew ?_ | refine blk_alloc ?_ _)); refine blk_put (cs := #[.int .i64 ((rd_T24 (rd_L4 l0_1 x5_2) x6_3).f0), .int .i64 ((rd_T24 (rd_L4 l0_1 x5_2) x6_3).f1), .int .i64 ((rd_T24 (rd_L4 l0_1 x5_2) x6_3).f2), .int .i64 ((rd_T24 (rd_L4 l0_1 x5_2) x6_3).f3), .int .i64 0, .int .u64 0]) ?_ 4 _ rfl; (with_reducible repeat (first | refine blk_drewN ?_ _ | refine blk_drew ?_ | refine blk_alloc ?_ _)); refine blk_put (cs := #[.int .i64 ((rd_T24 (rd_L4 l0_1 x5_2) x6_3).f0), .int .i64 ((rd_T24 (rd_L4 l0_1 x5_2) x6_3).f1), .int .i64 ((rd_T24 (rd_L4 l0_1 x5_2) x6_3).f2), .int .i64 0, .int .i64 0, .int .u64 0]) ?_ 3 _ rfl; (with_reducible repeat (first | refine blk_drewN ?_ _ | refine blk_drew ?_ | refine blk_alloc ?_ _)); refine blk_put (cs := #[.int .i64 ((rd_T24 (rd_L4 l0_1 x5_2) x6_3).f0), .int .i64 ((rd_T24 (rd_L4 l0_1 x5_2) x6_3).f1), .int .i64 0, .int .i64 0, .int .i64 0, .int .u64 0]) ?_ 2 _ rfl; (with_reducible repeat (first | refine blk_drewN ?_ _ | refine blk_drew ?_ | refine blk_alloc ?_ _)); refine blk_put (cs := #[.int .i64 ((rd_T24 (rd_L4 l0_1 x5_2) x6_3).f0), .int .i64 0, .int .i64 0, .int .i64 0, .int .i64 0, .int .u64 0]) ?_ 1 _ rfl; (with_reducible repeat (first | refine blk_drewN ?_ _ | refine blk_drew ?_ | refine blk_alloc ?_ _)); refine blk_put (cs := #[.int .i64 0, .int .i64 0, .int .i64 0, .int .i64 0, .int .i64 0, .int .u64 0]) ?_ 0 _ rfl; (with_reducible repeat (first | refine blk_drewN ?_ _ | refine blk_drew ?_ | refine blk_alloc ?_ _)); exact BK152.out⟩
                                    have n2_ : Aside0 (Below w.heap.size w ((((((w41.setCell ⟨gb152, 0, none⟩ (.int .i64 ((rd_T24 (rd_L4 l0_1 x5_2) x6_3).f0))).setCell ⟨gb152, 1, none⟩ (.int .i64 ((rd_T24 (rd_L4 l0_1 x5_2) x6_3).f1))).setCell ⟨gb152, 2, none⟩ (.int .i64 ((rd_T24 (rd_L4 l0_1 x5_2) x6_3).f2))).setCell ⟨gb152, 3, none⟩ (.int .i64 ((rd_T24 (rd_L4 l0_1 x5_2) x6_3).f3))).setCell ⟨gb152, 4, none⟩ (.int .i64 ((rd_T24 (rd_L4 l0_1 x5_2) x6_3).f4))).setCell ⟨gb152, 5, none⟩ (.int .u64 ((rd_T24 (rd_L4 l0_1 x5_2) x6_3).f5)))) := ⟨by repeat (first | (with_reducible first | exact HB.out | apply below_alloc | apply pw_below_drewN | apply below_drew1 | refine below_set ?_ GE131.out | refine below_set ?_ GE152.out) | exact HB.out)⟩
                                    (try clear BK131)
                                    (try clear BK152)
                                    (try clear HB)
                                    generalize ((((((w41.setCell ⟨gb152, 0, none⟩ (.int .i64 ((rd_T24 (rd_L4 l0_1 x5_2) x6_3).f0))).setCell ⟨gb152, 1, none⟩ (.int .i64 ((rd_T24 (rd_L4 l0_1 x5_2) x6_3).f1))).setCell ⟨gb152, 2, none⟩ (.int .i64 ((rd_T24 (rd_L4 l0_1 x5_2) x6_3).f2))).setCell ⟨gb152, 3, none⟩ (.int .i64 ((rd_T24 (rd_L4 l0_1 x5_2) x6_3).f3))).setCell ⟨gb152, 4, none⟩ (.int .i64 ((rd_T24 (rd_L4 l0_1 x5_2) x6_3).f4))).setCell ⟨gb152, 5, none⟩ (.int .u64 ((rd_T24 (rd_L4 l0_1 x5_2) x6_3).f5))) = w44 at n0_ n1_ n2_ ⊢
                                    have BK131 := n0_
                                    have BK152 := n1_
                                    have HB := n2_
                                    clear n0_ n1_ n2_
                                    have n0_ := Aside0.mk (blk_drew BK131.out)
                                    have n1_ := Aside0.mk (blk_drew BK152.out)
                                    have n2_ := Aside0.mk (below_drew1 HB.out)
                                    clear BK131
                                    clear BK152
                                    clear HB
                                    have BK131 := n0_
                                    have BK152 := n1_
                                    have HB := n2_
                                    clear n0_ n1_ n2_
                                    refine start_ (n := 19) (S := fun w' => w'.cell? ⟨gb152, 0, none⟩ = some (.int .i64 ((rd_T24 (rd_L4 l0_1 x5_2) x6_3).f0)) ∧ w'.cell? ⟨gb152, 1, none⟩ = some (.int .i64 ((rd_T24 (rd_L4 l0_1 x5_2) x6_3).f1)) ∧ w'.cell? ⟨gb152, 2, none⟩ = some (.int .i64 ((rd_T24 (rd_L4 l0_1 x5_2) x6_3).f2)) ∧ w'.cell? ⟨gb152, 3, none⟩ = some (.int .i64 ((rd_T24 (rd_L4 l0_1 x5_2) x6_3).f3)) ∧ w'.cell? ⟨gb152, 4, none⟩ = some (.int .i64 ((rd_T24 (rd_L4 l0_1 x5_2) x6_3).f4)) ∧ w'.cell? ⟨gb152, 5, none⟩ = some (.int .u64 ((rd_T24 (rd_L4 l0_1 x5_2) x6_3).f5))) (ds := []) #[false, false, false, false, false, false, false, false, false, false, false, false, false, false, false, false, false, false, false] (by kernel_rfl) rfl rfl ⟨(blk_cell BK152.out 0).trans rfl, (blk_cell BK152.out 1).trans rfl, (blk_cell BK152.out 2).trans rfl, (blk_cell BK152.out 3).trans rfl, (blk_cell BK152.out 4).trans rfl, (blk_cell BK152.out 5).trans rfl⟩ (fun hHeld => ?_); refine with_tabW rondeauref09_Print.tab15 rondeauref09_Print.bits15 (fun HT_ HW_ => ?_)
                                    generalize w44.drew = w45 at BK131 BK152 HB hHeld ⊢
                                    refine pure_ (i := 0) (N := some 84) (v := ?_) (a' := ?_) #[true, false, false, false, false, false, false, false, false, false, false, false, false, false, false, false, false, false, false] rfl rfl (any_of HT_.out (by kernel_rfl)) (fun _ _ _ h => h) (Or.inl ⟨by rfl, ?_⟩) ?_ ?_
                                    rotate_left
                                    · intro w'
                                      go_simp
                                      with_reducible rfl
                                    rotate_left
                                    · simp only [Act.put, List.setIfInBounds_toArray, List.set_cons_zero, List.set_cons_succ, i64_w, i32_w]
                                      rfl
                                    refine pure_ (i := 1) (N := some 85) (v := ?_) (a' := ?_) #[true, true, false, false, false, false, false, false, false, false, false, false, false, false, false, false, false, false, false] rfl rfl (any_of HT_.out (by kernel_rfl)) (fun _ _ _ h => h) (Or.inl ⟨by rfl, ?_⟩) ?_ ?_
                                    rotate_left
                                    · intro w'
                                      go_simp
                                      with_reducible rfl
                                    rotate_left
                                    · simp only [Act.put, List.setIfInBounds_toArray, List.set_cons_zero, List.set_cons_succ, i64_w, i32_w]
                                      rfl
                                    refine pure_ (i := 3) (N := some 87) (v := ?_) (a' := ?_) #[true, true, false, true, false, false, false, false, false, false, false, false, false, false, false, false, false, false, false] rfl rfl (any_of HT_.out (by kernel_rfl)) (fun _ _ _ h => h) (Or.inl ⟨by rfl, ?_⟩) ?_ ?_
                                    rotate_left
                                    · intro w'
                                      go_simp
                                      with_reducible rfl
                                    rotate_left
                                    · simp only [Act.put, List.setIfInBounds_toArray, List.set_cons_zero, List.set_cons_succ, i64_w, i32_w]
                                      rfl
                                    refine pure_ (i := 5) (N := some 89) (v := ?_) (a' := ?_) #[true, true, false, true, false, true, false, false, false, false, false, false, false, false, false, false, false, false, false] rfl rfl (any_of HT_.out (by kernel_rfl)) (fun _ _ _ h => h) (Or.inl ⟨by rfl, ?_⟩) ?_ ?_
                                    rotate_left
                                    · intro w'
                                      go_simp
                                      with_reducible rfl
                                    rotate_left
                                    · simp only [Act.put, List.setIfInBounds_toArray, List.set_cons_zero, List.set_cons_succ, i64_w, i32_w]
                                      rfl
                                    refine pure_ (i := 7) (N := some 91) (v := ?_) (a' := ?_) #[true, true, false, true, false, true, false, true, false, false, false, false, false, false, false, false, false, false, false] rfl rfl (any_of HT_.out (by kernel_rfl)) (fun _ _ _ h => h) (Or.inl ⟨by rfl, ?_⟩) ?_ ?_
                                    rotate_left
                                    · intro w'
                                      go_simp
                                      with_reducible rfl
                                    rotate_left
                                    · simp only [Act.put, List.setIfInBounds_toArray, List.set_cons_zero, List.set_cons_succ, i64_w, i32_w]
                                      rfl
                                    refine pure_ (i := 9) (N := some 93) (v := ?_) (a' := ?_) #[true, true, false, true, false, true, false, true, false, true, false, false, false, false, false, false, false, false, false] rfl rfl (any_of HT_.out (by kernel_rfl)) (fun _ _ _ h => h) (Or.inl ⟨by rfl, ?_⟩) ?_ ?_
                                    rotate_left
                                    · intro w'
                                      go_simp
                                      with_reducible rfl
                                    rotate_left
                                    · simp only [Act.put, List.setIfInBounds_toArray, List.set_cons_zero, List.set_cons_succ, i64_w, i32_w]
                                      rfl
                                    refine pure_ (i := 13) (N := some 97) (v := ?_) (a' := ?_) #[true, true, false, true, false, true, false, true, false, true, false, false, false, true, false, false, false, false, false] rfl rfl (any_of HT_.out (by kernel_rfl)) (fun _ _ _ h => h) (Or.inl ⟨by rfl, ?_⟩) ?_ ?_
                                    rotate_left
                                    · intro w'
                                      go_simp
                                      with_reducible rfl
                                    rotate_left
                                    · simp only [Act.put, List.setIfInBounds_toArray, List.set_cons_zero, List.set_cons_succ, i64_w, i32_w]
                                      rfl
                                    refine take_ (i := 2) (N := some 86) (v := ?_) (a' := ?_) #[true, true, true, true, false, true, false, true, false, true, false, false, false, true, false, false, false, false, false] rfl rfl (take_ofW HT_.out HW_.out (by kernel_rfl)) (fun _ _ _ h => h) (Or.inl ⟨by rfl, ?_⟩) hHeld ?_ ?_
                                    rotate_left
                                    · rintro w' ⟨s0, s1, s2, s3, s4, s5⟩
                                      go_simp
                                      with_reducible rfl
                                    rotate_left
                                    · simp only [Act.put, List.setIfInBounds_toArray, List.set_cons_zero, List.set_cons_succ, i64_w, i32_w]
                                      rfl
                                    refine take_ (i := 4) (N := some 88) (v := ?_) (a' := ?_) #[true, true, true, true, true, true, false, true, false, true, false, false, false, true, false, false, false, false, false] rfl rfl (take_ofW HT_.out HW_.out (by kernel_rfl)) (fun _ _ _ h => h) (Or.inl ⟨by rfl, ?_⟩) hHeld ?_ ?_
                                    rotate_left
                                    · rintro w' ⟨s0, s1, s2, s3, s4, s5⟩
                                      go_simp
                                      with_reducible rfl
                                    rotate_left
                                    · simp only [Act.put, List.setIfInBounds_toArray, List.set_cons_zero, List.set_cons_succ, i64_w, i32_w]
                                      rfl
                                    refine take_ (i := 6) (N := some 90) (v := ?_) (a' := ?_) #[true, true, true, true, true, true, true, true, false, true, false, false, false, true, false, false, false, false, false] rfl rfl (take_ofW HT_.out HW_.out (by kernel_rfl)) (fun _ _ _ h => h) (Or.inl ⟨by rfl, ?_⟩) hHeld ?_ ?_
                                    rotate_left
                                    · rintro w' ⟨s0, s1, s2, s3, s4, s5⟩
                                      go_simp
                                      with_reducible rfl
                                    rotate_left
                                    · simp only [Act.put, List.setIfInBounds_toArray, List.set_cons_zero, List.set_cons_succ, i64_w, i32_w]
                                      rfl
                                    refine take_ (i := 8) (N := some 92) (v := ?_) (a' := ?_) #[true, true, true, true, true, true, true, true, true, true, false, false, false, true, false, false, false, false, false] rfl rfl (take_ofW HT_.out HW_.out (by kernel_rfl)) (fun _ _ _ h => h) (Or.inl ⟨by rfl, ?_⟩) hHeld ?_ ?_
                                    rotate_left
                                    · rintro w' ⟨s0, s1, s2, s3, s4, s5⟩
                                      go_simp
                                      with_reducible rfl
                                    rotate_left
                                    · simp only [Act.put, List.setIfInBounds_toArray, List.set_cons_zero, List.set_cons_succ, i64_w, i32_w]
                                      rfl
                                    refine take_ (i := 10) (N := some 94) (v := ?_) (a' := ?_) #[true, true, true, true, true, true, true, true, true, true, true, false, false, true, false, false, false, false, false] rfl rfl (take_ofW HT_.out HW_.out (by kernel_rfl)) (fun _ _ _ h => h) (Or.inl ⟨by rfl, ?_⟩) hHeld ?_ ?_
                                    rotate_left
                                    · rintro w' ⟨s0, s1, s2, s3, s4, s5⟩
                                      go_simp
                                      with_reducible rfl
                                    rotate_left
                                    · simp only [Act.put, List.setIfInBounds_toArray, List.set_cons_zero, List.set_cons_succ, i64_w, i32_w]
                                      rfl
                                    refine take_ (i := 14) (N := some 98) (v := ?_) (a' := ?_) #[true, true, true, true, true, true, true, true, true, true, true, false, false, true, true, false, false, false, false] rfl rfl (take_ofW HT_.out HW_.out (by kernel_rfl)) (fun _ _ _ h => h) (Or.inl ⟨by rfl, ?_⟩) hHeld ?_ ?_
                                    rotate_left
                                    · rintro w' ⟨s0, s1, s2, s3, s4, s5⟩
                                      go_simp
                                      with_reducible rfl
                                    rotate_left
                                    · simp only [Act.put, List.setIfInBounds_toArray, List.set_cons_zero, List.set_cons_succ, i64_w, i32_w]
                                      rfl
                                    refine one_ (i := 11) (N := some 95) #[true, true, true, true, true, true, true, true, true, true, true, true, false, true, true, false, false, false, false] rfl rfl (one_of HT_.out (by kernel_rfl)) (by decide) (fun K hK => ?_)
                                    refine Kd.R_lit_step (Kd.int .i64) _ 3 ?hg (N := 95) ?hd (xs := ([(rd_T24 (rd_L4 l0_1 x5_2) x6_3).f0, (rd_T24 (rd_L4 l0_1 x5_2) x6_3).f1, (rd_T24 (rd_L4 l0_1 x5_2) x6_3).f2, (rd_T24 (rd_L4 l0_1 x5_2) x6_3).f3, (rd_T24 (rd_L4 l0_1 x5_2) x6_3).f4] : List Int)) (inner := [.int .i64 ((rd_T24 (rd_L4 l0_1 x5_2) x6_3).f0), .int .i64 ((rd_T24 (rd_L4 l0_1 x5_2) x6_3).f1), .int .i64 ((rd_T24 (rd_L4 l0_1 x5_2) x6_3).f2), .int .i64 ((rd_T24 (rd_L4 l0_1 x5_2) x6_3).f3), .int .i64 ((rd_T24 (rd_L4 l0_1 x5_2) x6_3).f4)]) (ok := fun _ => True) (okp := fun _ => True) ?hr ?hp (fun _ hk => hk) trivial (Below.refl _ _) (Nat.le_refl _) (by simp) ?_; (case hd => rfl); (case hg => rfl); (case hr => first | (go_simp; done) | (go_simp; rfl)); (case hp => exact (Reps.one (show Kd.M (Kd.int .i64) _ _ _ ((rd_T24 (rd_L4 l0_1 x5_2) x6_3).f0) [.int .i64 ((rd_T24 (rd_L4 l0_1 x5_2) x6_3).f0)] from rfl) (Reps.one (show Kd.M (Kd.int .i64) _ _ _ ((rd_T24 (rd_L4 l0_1 x5_2) x6_3).f1) [.int .i64 ((rd_T24 (rd_L4 l0_1 x5_2) x6_3).f1)] from rfl) (Reps.one (show Kd.M (Kd.int .i64) _ _ _ ((rd_T24 (rd_L4 l0_1 x5_2) x6_3).f2) [.int .i64 ((rd_T24 (rd_L4 l0_1 x5_2) x6_3).f2)] from rfl) (Reps.one (show Kd.M (Kd.int .i64) _ _ _ ((rd_T24 (rd_L4 l0_1 x5_2) x6_3).f3) [.int .i64 ((rd_T24 (rd_L4 l0_1 x5_2) x6_3).f3)] from rfl) (Reps.one (show Kd.M (Kd.int .i64) _ _ _ ((rd_T24 (rd_L4 l0_1 x5_2) x6_3).f4) [.int .i64 ((rd_T24 (rd_L4 l0_1 x5_2) x6_3).f4)] from rfl) (Reps.none _ _)))))))
                                    intro v154 w46 ho47 hb hg_ hnew_
                                    clear hg_ hnew_
                                    (first | rw [← Ny153.out] at ho47 | (simp only [Int.reduceToNat] at ho47; rw [← Ny153.out] at ho47))
                                    have n0_ := Aside0.mk (Kd.R_lower ho47 (below_size (by repeat (first | (with_reducible first | exact HB.out | apply below_alloc | apply pw_below_drewN | apply below_drew1 | refine below_set ?_ GE131.out | refine below_set ?_ GE152.out) | exact HB.out))))
                                    have n1_ := Aside0.mk (blk_below (g := gb131) (o := .cells #[.slice A0_0 l0_0.length c0_0, .slice (some ad147) l0_1.length c0_1] 35 (0, 0)) (by (with_reducible repeat (first | refine blk_drewN ?_ _ | refine blk_drew ?_ | refine blk_alloc ?_ _)); exact BK131.out) hb)
                                    have n2_ := Aside0.mk (blk_below (g := gb152) (o := .cells #[.int .i64 ((rd_T24 (rd_L4 l0_1 x5_2) x6_3).f0), .int .i64 ((rd_T24 (rd_L4 l0_1 x5_2) x6_3).f1), .int .i64 ((rd_T24 (rd_L4 l0_1 x5_2) x6_3).f2), .int .i64 ((rd_T24 (rd_L4 l0_1 x5_2) x6_3).f3), .int .i64 ((rd_T24 (rd_L4 l0_1 x5_2) x6_3).f4), .int .u64 ((rd_T24 (rd_L4 l0_1 x5_2) x6_3).f5)] 24 (0, 0)) (by (with_reducible repeat (first | refine blk_drewN ?_ _ | refine blk_drew ?_ | refine blk_alloc ?_ _)); exact BK152.out) hb)
                                    have n3_ := Aside0.mk (below_step (by repeat (first | (with_reducible first | exact HB.out | apply below_alloc | apply pw_below_drewN | apply below_drew1 | refine below_set ?_ GE131.out | refine below_set ?_ GE152.out) | exact HB.out)) hb)
                                    clear BK131
                                    clear BK152
                                    clear HB
                                    have HO155 := n0_
                                    have BK131 := n1_
                                    have BK152 := n2_
                                    have HB := n3_
                                    clear n0_ n1_ n2_ n3_
                                    clear hb ho47
                                    obtain ⟨Ao48, co48, eo48⟩ := Kd.R_slice HO155.out
                                    (first | subst eo48 | (injection eo48 with f1_ f2_ f3_; have f4_ := f1_.symm; have f5_ := f3_.symm; clear f1_ f2_ f3_; subst f4_; subst f5_))
                                    refine hK.out _ _ ⟨(blk_cell BK152.out 0).trans rfl, (blk_cell BK152.out 1).trans rfl, (blk_cell BK152.out 2).trans rfl, (blk_cell BK152.out 3).trans rfl, (blk_cell BK152.out 4).trans rfl, (blk_cell BK152.out 5).trans rfl⟩ (fun hHeld => ?_)
                                    clear hK K
                                    refine norm_ (a' := ?_) ?_ ?_
                                    rotate_left
                                    · show Act.put _ (some 95) _ = _
                                      simp only [Act.put, List.setIfInBounds_toArray, List.set_cons_zero, List.set_cons_succ, i64_w, i32_w]
                                      rfl
                                    refine one_ (i := 12) (N := some 96) #[true, true, true, true, true, true, true, true, true, true, true, true, true, true, true, false, false, false, false] rfl rfl (one_of HT_.out (by kernel_rfl)) (by decide) (fun K hK => ?_)
                                    refine goes_ Try.func42 (by kernel_rfl) rfl #[.slice Ao48 y153.length co48] (by rfl) rfl rfl (by (try simp only [List.map_toArray, List.map_cons, List.map_nil]); first | done | rfl | (simp only [List.length_drop, List.length_take]; rfl)) ?_
                                    with_reducible refine (rondeauref09_bytes.calls k3 _ _ y153 t156 _ ?side1 ?side2 A36.out).mono ?_
                                    (case side1 => repeat (first | exact (Kd.R_reads' HO155.out).2.2 | (with_reducible refine Kd.C_alloc ?_ _) | (with_reducible refine Kd.C_drewN ?_ _) | (with_reducible refine Kd.C_drew ?_)))
                                    (case side2 => exact (Kd.R_reads' HO155.out).2.1)
                                    rintro e w49 ⟨rfl, hb⟩
                                    refine ⟨_, rfl, ?_⟩
                                    have n0_ := Aside0.mk (Kd.R_below (by (with_reducible repeat (first | apply Kd.R_alloc | apply Kd.R_drewN | apply Kd.R_drew)); exact HO155.out) hb)
                                    have n1_ := Aside0.mk (blk_below (g := gb131) (o := .cells #[.slice A0_0 l0_0.length c0_0, .slice (some ad147) l0_1.length c0_1] 35 (0, 0)) (by (with_reducible repeat (first | refine blk_drewN ?_ _ | refine blk_drew ?_ | refine blk_alloc ?_ _)); exact BK131.out) hb)
                                    have n2_ := Aside0.mk (blk_below (g := gb152) (o := .cells #[.int .i64 ((rd_T24 (rd_L4 l0_1 x5_2) x6_3).f0), .int .i64 ((rd_T24 (rd_L4 l0_1 x5_2) x6_3).f1), .int .i64 ((rd_T24 (rd_L4 l0_1 x5_2) x6_3).f2), .int .i64 ((rd_T24 (rd_L4 l0_1 x5_2) x6_3).f3), .int .i64 ((rd_T24 (rd_L4 l0_1 x5_2) x6_3).f4), .int .u64 ((rd_T24 (rd_L4 l0_1 x5_2) x6_3).f5)] 24 (0, 0)) (by (with_reducible repeat (first | refine blk_drewN ?_ _ | refine blk_drew ?_ | refine blk_alloc ?_ _)); exact BK152.out) hb)
                                    have n3_ := Aside0.mk (below_step (by repeat (first | (with_reducible first | exact HB.out | apply below_alloc | apply pw_below_drewN | apply below_drew1 | refine below_set ?_ GE131.out | refine below_set ?_ GE152.out) | exact HB.out)) hb)
                                    clear HO155
                                    clear BK131
                                    clear BK152
                                    clear HB
                                    have HO155 := n0_
                                    have BK131 := n1_
                                    have BK152 := n2_
                                    have HB := n3_
                                    clear n0_ n1_ n2_ n3_
                                    (try clear hb)
                                    (try clear hb2)
                                    (try clear hk)
                                    (try clear hi)
                                    refine hK.out _ _ ⟨(blk_cell BK152.out 0).trans rfl, (blk_cell BK152.out 1).trans rfl, (blk_cell BK152.out 2).trans rfl, (blk_cell BK152.out 3).trans rfl, (blk_cell BK152.out 4).trans rfl, (blk_cell BK152.out 5).trans rfl⟩ (fun hHeld => ?_)
                                    clear hK K
                                    refine norm_ (a' := ?_) ?_ ?_
                                    rotate_left
                                    · show Act.put _ (some 96) _ = _
                                      simp only [Act.put, List.setIfInBounds_toArray, List.set_cons_zero, List.set_cons_succ, i64_w, i32_w]
                                      rfl
                                    refine one_ (i := 15) (N := some 99) #[true, true, true, true, true, true, true, true, true, true, true, true, true, true, true, true, false, false, false] rfl rfl (one_of HT_.out (by kernel_rfl)) (by decide) (fun K hK => ?_)
                                    refine goes_ Try.func43 (by kernel_rfl) rfl #[.int .u64 ((rd_T24 (rd_L4 l0_1 x5_2) x6_3).f5)] (by rfl) rfl rfl (by (try simp only [List.map_toArray, List.map_cons, List.map_nil]); first | done | rfl | (simp only [List.length_drop, List.length_take]; rfl)) ?_
                                    with_reducible refine (rondeauref02_Print.calls k3 ((rd_T24 (rd_L4 l0_1 x5_2) x6_3).f5) t157 _ A37.out).mono ?_
                                    rintro e w50 ⟨rfl, hb⟩
                                    refine ⟨_, rfl, ?_⟩
                                    have n0_ := Aside0.mk (Kd.R_below (by (with_reducible repeat (first | apply Kd.R_alloc | apply Kd.R_drewN | apply Kd.R_drew)); exact HO155.out) hb)
                                    have n1_ := Aside0.mk (blk_below (g := gb131) (o := .cells #[.slice A0_0 l0_0.length c0_0, .slice (some ad147) l0_1.length c0_1] 35 (0, 0)) (by (with_reducible repeat (first | refine blk_drewN ?_ _ | refine blk_drew ?_ | refine blk_alloc ?_ _)); exact BK131.out) hb)
                                    have n2_ := Aside0.mk (blk_below (g := gb152) (o := .cells #[.int .i64 ((rd_T24 (rd_L4 l0_1 x5_2) x6_3).f0), .int .i64 ((rd_T24 (rd_L4 l0_1 x5_2) x6_3).f1), .int .i64 ((rd_T24 (rd_L4 l0_1 x5_2) x6_3).f2), .int .i64 ((rd_T24 (rd_L4 l0_1 x5_2) x6_3).f3), .int .i64 ((rd_T24 (rd_L4 l0_1 x5_2) x6_3).f4), .int .u64 ((rd_T24 (rd_L4 l0_1 x5_2) x6_3).f5)] 24 (0, 0)) (by (with_reducible repeat (first | refine blk_drewN ?_ _ | refine blk_drew ?_ | refine blk_alloc ?_ _)); exact BK152.out) hb)
                                    have n3_ := Aside0.mk (below_step (by repeat (first | (with_reducible first | exact HB.out | apply below_alloc | apply pw_below_drewN | apply below_drew1 | refine below_set ?_ GE131.out | refine below_set ?_ GE152.out) | exact HB.out)) hb)
                                    clear HO155
                                    clear BK131
                                    clear BK152
                                    clear HB
                                    have HO155 := n0_
                                    have BK131 := n1_
                                    have BK152 := n2_
                                    have HB := n3_
                                    clear n0_ n1_ n2_ n3_
                                    (try clear hb)
                                    (try clear hb2)
                                    (try clear hk)
                                    (try clear hi)
                                    refine hK.out _ _ ⟨(blk_cell BK152.out 0).trans rfl, (blk_cell BK152.out 1).trans rfl, (blk_cell BK152.out 2).trans rfl, (blk_cell BK152.out 3).trans rfl, (blk_cell BK152.out 4).trans rfl, (blk_cell BK152.out 5).trans rfl⟩ (fun hHeld => ?_)
                                    clear hK K
                                    refine norm_ (a' := ?_) ?_ ?_
                                    rotate_left
                                    · show Act.put _ (some 99) _ = _
                                      simp only [Act.put, List.setIfInBounds_toArray, List.set_cons_zero, List.set_cons_succ, i64_w, i32_w]
                                      rfl
                                    refine pure_ (i := 16) (N := some 100) (v := ?_) (a' := ?_) #[true, true, true, true, true, true, true, true, true, true, true, true, true, true, true, true, true, false, false] rfl rfl (any_of HT_.out (by kernel_rfl)) (fun _ _ _ h => h) (Or.inl ⟨by rfl, ?_⟩) ?_ ?_
                                    rotate_left
                                    · intro w'
                                      go_simp
                                      with_reducible rfl
                                    rotate_left
                                    · simp only [Act.put, List.setIfInBounds_toArray, List.set_cons_zero, List.set_cons_succ, i64_w, i32_w]
                                      rfl
                                    refine pure_ (i := 17) (N := some 101) (v := ?_) (a' := ?_) #[true, true, true, true, true, true, true, true, true, true, true, true, true, true, true, true, true, true, false] rfl rfl (any_of HT_.out (by kernel_rfl)) (fun _ _ _ h => h) (Or.inl ⟨by rfl, ?_⟩) ?_ ?_
                                    rotate_left
                                    · intro w'
                                      go_simp
                                      with_reducible rfl
                                    rotate_left
                                    · simp only [Act.put, List.setIfInBounds_toArray, List.set_cons_zero, List.set_cons_succ, i64_w, i32_w]
                                      rfl
                                    refine pure_ (i := 18) (N := some 3) (v := ?_) (a' := ?_) #[true, true, true, true, true, true, true, true, true, true, true, true, true, true, true, true, true, true, true] rfl rfl (any_of HT_.out (by kernel_rfl)) (fun _ _ _ h => h) (Or.inl ⟨by rfl, ?_⟩) ?_ ?_
                                    rotate_left
                                    · intro w'
                                      go_simp
                                      with_reducible rfl
                                    rotate_left
                                    · simp only [Act.put, List.setIfInBounds_toArray, List.set_cons_zero, List.set_cons_succ, i64_w, i32_w]
                                      rfl
                                    refine done_ (done_of HT_.out (by kernel_rfl)) ?_
                                    try go_wp2
                                    go_roundg k3
                                    case measure => have := HK1.out; have := HK2.out; have := HK3.out; omega
                                    case rel => exact ⟨(x3_3 ++ (t156 ++ t157)), (wrap64 (x6_3 + 1)), (by first | rfl | (simp; done) | (simp [*]; done)), (by first | rfl | (simp; done) | (simp [*]; done)), H', ⟨by have := HK1.out; have := HK2.out; have := HK3.out; omega⟩, ⟨by (with_reducible repeat (first | refine blk_drewN ?_ _ | refine blk_drew ?_ | refine blk_alloc ?_ _)); exact BK131.out⟩, ⟨by repeat (first | (with_reducible first | exact HB.out | apply below_alloc | apply pw_below_drewN | apply below_drew1 | refine below_set ?_ GE131.out | refine below_set ?_ GE152.out) | exact HB.out)⟩⟩
                                  · rw [if_neg c39] at H
                                    exact absurd H (by simp)
                                · rw [if_neg c38] at H
                                  exact absurd H (by simp)
                              · rw [if_neg c35] at H
                                exact absurd H (by simp)
                            · rw [if_neg c34] at H
                              have c34b0 : decide (x6_3 < ((rd_L4 l0_1 x5_2).length : Int)) = false := decide_eq_false c34
                              clear c34
                              have H' := Aside0.mk H
                              clear H
                              have hcz51_0 : wr.cell? ⟨gb131, 0, none⟩ = some (.slice A0_0 l0_0.length c0_0) := (blk_cell BK131.out 0).trans rfl
                              have hcz51_1 : wr.cell? ⟨gb131, 1, none⟩ = some (.slice (some ad147) l0_1.length c0_1) := (blk_cell BK131.out 1).trans rfl
                              have hfz51_0 := blk_frozen BK131.out 0
                              have hfz51_1 := blk_frozen BK131.out 1
                              have p149 : 0 ≤ (x5_2 : Int) := of_decide_eq_true (by first | (with_reducible assumption) | assumption)
                              have q149 : x5_2 < (l0_1.length : Int) := of_decide_eq_true (by first | (with_reducible assumption) | assumption)
                              obtain ⟨ad149, A149_0, c149_0, e149, hx149_0, hl149_0, hi149_0⟩ := at_L4 HR0_1.out x5_2 p149 q149
                              obtain rfl : ad147 = ad149 := (by injection e149)
                              replace hx149_0 := (HB.out.cell (World.block_lt_of_cell? w _ hx149_0)).trans hx149_0
                              have HR149_0 := Aside0.mk hi149_0
                              have HC149_0 := Aside0.mk hl149_0
                              clear hi149_0 hl149_0
                              replace p149 := eq_true p149
                              replace q149 := eq_true q149
                              go_wp2
                              go_roundg k3
                              case measure => have := HK1.out; have := HK2.out; have := HK3.out; omega
                              case rel => exact ⟨(x3_3), (wrap64 (x5_2 + 1)), (by first | rfl | (simp; done) | (simp [*]; done)), (by first | rfl | (simp; done) | (simp [*]; done)), H', ⟨by have := HK1.out; have := HK2.out; have := HK3.out; omega⟩, ⟨by (with_reducible repeat (first | refine blk_drewN ?_ _ | refine blk_drew ?_ | refine blk_alloc ?_ _)); exact BK131.out⟩, ⟨by repeat (first | (with_reducible first | exact HB.out | apply below_alloc | apply pw_below_drewN | apply below_drew1 | refine below_set ?_ GE131.out) | exact HB.out)⟩⟩
                          · rw [if_neg c33] at H
                            exact absurd H (by simp)
                        · rw [if_neg c32] at H
                          exact absurd H (by simp)
                  · rw [if_neg c29] at H
                    exact absurd H (by simp)
                · rw [if_neg c27] at H
                  exact absurd H (by simp)
              · rw [if_neg c26] at H
                have c26b0 : decide (x5_2 < (l0_1.length : Int)) = false := decide_eq_false c26
                clear c26
                obtain rfl := Option.some.inj H
                have hcz52_0 : wr.cell? ⟨gb131, 0, none⟩ = some (.slice A0_0 l0_0.length c0_0) := (blk_cell BK131.out 0).trans rfl
                have hcz52_1 : wr.cell? ⟨gb131, 1, none⟩ = some (.slice A0_1 l0_1.length c0_1) := (blk_cell BK131.out 1).trans rfl
                have hfz52_0 := blk_frozen BK131.out 0
                have hfz52_1 := blk_frozen BK131.out 1
                go_wp2
                go_ret
                exact ⟨by first | rfl | (simp [errW_none, errW_some] <;> rfl) | (simp [*, errW_none, errW_some] <;> rfl), by repeat (first | (with_reducible first | exact HB.out | apply below_alloc | apply pw_below_drewN | apply below_drew1 | refine below_set ?_ GE131.out) | exact HB.out)⟩
        · rw [if_neg c20] at H
          exact absurd H (by simp)

end Go.Proofs.Ytklkboibpglhjaa.PRef
