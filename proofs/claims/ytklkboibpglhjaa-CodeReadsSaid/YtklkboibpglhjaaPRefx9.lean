-- by a program of this work, out of the translation: functions, and what a call of each comes to
import Derived.Test.YtklkboibpglhjaaPRefx0
import Derived.Test.YtklkboibpglhjaaPRefx1
import Derived.Test.YtklkboibpglhjaaPRefx2
namespace Go.Proofs.Ytklkboibpglhjaa.PRef
open Go.RowKit Go.Proofs.YtklkboibpglhjaaW.PrintWords Go.Proofs.YtklkboibpglhjaaW.PrintLast Go.Proofs.YtklkboibpglhjaaW.PrintMore
attribute [local go_sem] max2_int min2_int max_two min_two max_three min_three max_four min_four   -- for this text's walks alone
set_option linter.unusedVariables false
set_option linter.unusedSimpArgs false

attribute [local go_sem high] eqA24 eqA70
/-! ### rondeauref09_Same: function 26 -/
mutual
def rondeauref09_Same.j0 : Nat → Bool → List (S70) → List (List (S24)) → List (S70) → List (List (S24)) → Option (Bool)
  | 0, _, _, _, _, _ => none
  | k + 1, x23, x184000, x184001, x185000, x185001 => if x23 = true then (some false) else (rondeauref09_Same.l0 k 0 x184000 x184001 x185000 x185001)
def rondeauref09_Same.l0 : Nat → Int → List (S70) → List (List (S24)) → List (S70) → List (List (S24)) → Option (Bool)
  | 0, _, _, _, _, _ => none
  | k + 1, x5, x184000, x184001, x185000, x185001 => if x5 < (x184000.length : Int) then (if 0 ≤ x5 then (if x5 < (x185000.length : Int) then (if (!(((rd_T70 x184000 x5).f0) == ((rd_T70 x185000 x5).f0)) || (!(((rd_T70 x184000 x5).f1) == ((rd_T70 x185000 x5).f1)) || (!(((rd_T70 x184000 x5).f2) == ((rd_T70 x185000 x5).f2))))) = true then (some false) else (rondeauref09_Same.l0 k (wrap64 (x5 + 1)) x184000 x184001 x185000 x185001)) else (none)) else (none)) else (rondeauref09_Same.l1 k 0 x184000 x184001 x185000 x185001)
def rondeauref09_Same.l1 : Nat → Int → List (S70) → List (List (S24)) → List (S70) → List (List (S24)) → Option (Bool)
  | 0, _, _, _, _, _ => none
  | k + 1, x6, x184000, x184001, x185000, x185001 => if x6 < (x184001.length : Int) then (if 0 ≤ x6 then (if x6 < (x185001.length : Int) then (if ((rd_L4 x184001 x6).length : Int) = ((rd_L4 x185001 x6).length : Int) then (rondeauref09_Same.l2 k x6 0 x184000 x184001 x185000 x185001) else (some false)) else (none)) else (none)) else (some true)
def rondeauref09_Same.l2 : Nat → Int → Int → List (S70) → List (List (S24)) → List (S70) → List (List (S24)) → Option (Bool)
  | 0, _, _, _, _, _, _ => none
  | k + 1, x6, x7, x184000, x184001, x185000, x185001 => if 0 ≤ x6 then (if x6 < (x184001.length : Int) then (if x7 < ((rd_L4 x184001 x6).length : Int) then (if 0 ≤ x7 then (if x6 < (x185001.length : Int) then (if x7 < ((rd_L4 x185001 x6).length : Int) then (if (!(((rd_T24 (rd_L4 x184001 x6) x7).f0) == ((rd_T24 (rd_L4 x185001 x6) x7).f0)) || (!(((rd_T24 (rd_L4 x184001 x6) x7).f1) == ((rd_T24 (rd_L4 x185001 x6) x7).f1)) || (!(((rd_T24 (rd_L4 x184001 x6) x7).f2) == ((rd_T24 (rd_L4 x185001 x6) x7).f2)) || (!(((rd_T24 (rd_L4 x184001 x6) x7).f3) == ((rd_T24 (rd_L4 x185001 x6) x7).f3)) || (!(((rd_T24 (rd_L4 x184001 x6) x7).f4) == ((rd_T24 (rd_L4 x185001 x6) x7).f4)) || (!(((rd_T24 (rd_L4 x184001 x6) x7).f5) == ((rd_T24 (rd_L4 x185001 x6) x7).f5)))))))) = true then (some false) else (rondeauref09_Same.l2 k x6 (wrap64 (x7 + 1)) x184000 x184001 x185000 x185001)) else (none)) else (none)) else (none)) else (rondeauref09_Same.l1 k (wrap64 (x6 + 1)) x184000 x184001 x185000 x185001)) else (none)) else (none)
end
def rondeauref09_Same.f (k : Nat) (l0_0 : List (S70)) (l0_1 : List (List (S24))) (l1_0 : List (S70)) (l1_1 : List (List (S24))) : Option (Bool) := if (l0_0.length : Int) = (l1_0.length : Int) then (rondeauref09_Same.j0 k ((l0_1.length : Int) != (l1_1.length : Int)) l0_0 l0_1 l1_0 l1_1) else (rondeauref09_Same.j0 k true l0_0 l0_1 l1_0 l1_1)
theorem rondeauref09_Same.mono_l : ∀ k, (∀ y0 y1 y2 y3 y4, LeO (rondeauref09_Same.j0 k y0 y1 y2 y3 y4) (rondeauref09_Same.j0 (k + 1) y0 y1 y2 y3 y4)) ∧ (∀ y0 y1 y2 y3 y4, LeO (rondeauref09_Same.l0 k y0 y1 y2 y3 y4) (rondeauref09_Same.l0 (k + 1) y0 y1 y2 y3 y4)) ∧ (∀ y0 y1 y2 y3 y4, LeO (rondeauref09_Same.l1 k y0 y1 y2 y3 y4) (rondeauref09_Same.l1 (k + 1) y0 y1 y2 y3 y4)) ∧ (∀ y0 y1 y2 y3 y4 y5, LeO (rondeauref09_Same.l2 k y0 y1 y2 y3 y4 y5) (rondeauref09_Same.l2 (k + 1) y0 y1 y2 y3 y4 y5))
  | 0 => ⟨fun _ _ _ _ _ r h => by simp [rondeauref09_Same.j0] at h, fun _ _ _ _ _ r h => by simp [rondeauref09_Same.l0] at h, fun _ _ _ _ _ r h => by simp [rondeauref09_Same.l1] at h, fun _ _ _ _ _ _ r h => by simp [rondeauref09_Same.l2] at h⟩
  | k + 1 => by
    obtain ⟨ih0, ih1, ih2, ih3⟩ := rondeauref09_Same.mono_l k
    refine ⟨?_, ?_, ?_, ?_⟩
    · intro y0 y1 y2 y3 y4
      unfold rondeauref09_Same.j0
      repeat' first
      | (with_reducible exact ih0 _ _ _ _ _)
      | (with_reducible exact ih1 _ _ _ _ _)
      | (with_reducible exact ih2 _ _ _ _ _)
      | (with_reducible exact ih3 _ _ _ _ _ _)
      | (with_reducible exact LeO.refl _)
      | (with_reducible exact LeO.none _)
      | (with_reducible refine LeO.ite ?_ ?_)
      | (with_reducible refine LeO.bind ?_ (fun _ => ?_))
      | exact ih0 _ _ _ _ _
      | exact ih1 _ _ _ _ _
      | exact ih2 _ _ _ _ _
      | exact ih3 _ _ _ _ _ _
      | exact LeO.none _
      | refine LeO.ite ?_ ?_
      | refine LeO.bind ?_ (fun _ => ?_)
    · intro y0 y1 y2 y3 y4
      unfold rondeauref09_Same.l0
      repeat' first
      | (with_reducible exact ih0 _ _ _ _ _)
      | (with_reducible exact ih1 _ _ _ _ _)
      | (with_reducible exact ih2 _ _ _ _ _)
      | (with_reducible exact ih3 _ _ _ _ _ _)
      | (with_reducible exact LeO.refl _)
      | (with_reducible exact LeO.none _)
      | (with_reducible refine LeO.ite ?_ ?_)
      | (with_reducible refine LeO.bind ?_ (fun _ => ?_))
      | exact ih0 _ _ _ _ _
      | exact ih1 _ _ _ _ _
      | exact ih2 _ _ _ _ _
      | exact ih3 _ _ _ _ _ _
      | exact LeO.none _
      | refine LeO.ite ?_ ?_
      | refine LeO.bind ?_ (fun _ => ?_)
    · intro y0 y1 y2 y3 y4
      unfold rondeauref09_Same.l1
      repeat' first
      | (with_reducible exact ih0 _ _ _ _ _)
      | (with_reducible exact ih1 _ _ _ _ _)
      | (with_reducible exact ih2 _ _ _ _ _)
      | (with_reducible exact ih3 _ _ _ _ _ _)
      | (with_reducible exact LeO.refl _)
      | (with_reducible exact LeO.none _)
      | (with_reducible refine LeO.ite ?_ ?_)
      | (with_reducible refine LeO.bind ?_ (fun _ => ?_))
      | exact ih0 _ _ _ _ _
      | exact ih1 _ _ _ _ _
      | exact ih2 _ _ _ _ _
      | exact ih3 _ _ _ _ _ _
      | exact LeO.none _
      | refine LeO.ite ?_ ?_
      | refine LeO.bind ?_ (fun _ => ?_)
    · intro y0 y1 y2 y3 y4 y5
      unfold rondeauref09_Same.l2
      repeat' first
      | (with_reducible exact ih0 _ _ _ _ _)
      | (with_reducible exact ih1 _ _ _ _ _)
      | (with_reducible exact ih2 _ _ _ _ _)
      | (with_reducible exact ih3 _ _ _ _ _ _)
      | (with_reducible exact LeO.refl _)
      | (with_reducible exact LeO.none _)
      | (with_reducible refine LeO.ite ?_ ?_)
      | (with_reducible refine LeO.bind ?_ (fun _ => ?_))
      | exact ih0 _ _ _ _ _
      | exact ih1 _ _ _ _ _
      | exact ih2 _ _ _ _ _
      | exact ih3 _ _ _ _ _ _
      | exact LeO.none _
      | refine LeO.ite ?_ ?_
      | refine LeO.bind ?_ (fun _ => ?_)
theorem rondeauref09_Same.mono : ∀ a0 a1 a2 a3 k, LeO (rondeauref09_Same.f k a0 a1 a2 a3) (rondeauref09_Same.f (k + 1) a0 a1 a2 a3) := by
  intro a0 a1 a2 a3 k
  obtain ⟨ih0, ih1, ih2, ih3⟩ := rondeauref09_Same.mono_l k
  unfold rondeauref09_Same.f
  repeat' first
      | (with_reducible exact ih0 _ _ _ _ _)
      | (with_reducible exact ih1 _ _ _ _ _)
      | (with_reducible exact ih2 _ _ _ _ _)
      | (with_reducible exact ih3 _ _ _ _ _ _)
      | (with_reducible exact LeO.refl _)
      | (with_reducible exact LeO.none _)
      | (with_reducible refine LeO.ite ?_ ?_)
      | (with_reducible refine LeO.bind ?_ (fun _ => ?_))
      | exact ih0 _ _ _ _ _
      | exact ih1 _ _ _ _ _
      | exact ih2 _ _ _ _ _
      | exact ih3 _ _ _ _ _ _
      | exact LeO.none _
      | refine LeO.ite ?_ ?_
      | refine LeO.bind ?_ (fun _ => ?_)
set_option maxHeartbeats 8000000 in
set_option maxRecDepth 100000 in
theorem rondeauref09_Same.calls (k : Nat) (A0_0 : Option Addr) (c0_0 : Nat) (l0_0 : List (S70)) (A0_1 : Option Addr) (c0_1 : Nat) (l0_1 : List (List (S24))) (A1_0 : Option Addr) (c1_0 : Nat) (l1_0 : List (S70)) (A1_1 : Option Addr) (c1_1 : Nat) (l1_1 : List (List (S24))) (r : Bool) (w : World) (hr0_0 : Kd.C k70 w A0_0 l0_0.length l0_0) (hc0_0 : l0_0.length ≤ c0_0) (hr0_1 : Kd.C (Kd.slice 24 k24) w A0_1 l0_1.length l0_1) (hc0_1 : l0_1.length ≤ c0_1) (hr1_0 : Kd.C k70 w A1_0 l1_0.length l1_0) (hc1_0 : l1_0.length ≤ c1_0) (hr1_1 : Kd.C (Kd.slice 24 k24) w A1_1 l1_1.length l1_1) (hc1_1 : l1_1.length ≤ c1_1) (h : rondeauref09_Same.f k l0_0 l0_1 l1_0 l1_1 = some r) :
    Calls Try.prog 26 #[.agg #[.slice A0_0 l0_0.length c0_0, .slice A0_1 l0_1.length c0_1], .agg #[.slice A1_0 l1_0.length c1_0, .slice A1_1 l1_1.length c1_1]] w fun e w' => e = .returned (.bool r) ∧ Below w.heap.size w w' := by
  have hu35 := Try.underlying35
  have hu70 := Try.underlying70
  have hu24 := Try.underlying24
  have HR0_0 := Aside0.mk hr0_0
  have HC0_0 := Aside0.mk hc0_0
  clear hr0_0 hc0_0
  have HR0_1 := Aside0.mk hr0_1
  have HC0_1 := Aside0.mk hc0_1
  clear hr0_1 hc0_1
  have HR1_0 := Aside0.mk hr1_0
  have HC1_0 := Aside0.mk hc1_0
  clear hr1_0 hc1_0
  have HR1_1 := Aside0.mk hr1_1
  have HC1_1 := Aside0.mk hc1_1
  clear hr1_1 hc1_1
  have HB := Aside0.mk (Below.refl w.heap.size w)
  have H : (if (l0_0.length : Int) = (l1_0.length : Int) then (rondeauref09_Same.j0 k ((l0_1.length : Int) != (l1_1.length : Int)) l0_0 l0_1 l1_0 l1_1) else (rondeauref09_Same.j0 k true l0_0 l0_1 l1_0 l1_1)) = some r := h
  clear h
  have HC3 := Aside0.mk H
  clear H
  go_enter Try.func26, Try.ntmps26
  go_upto_region 1 with (first | ((with_reducible refine gate_dst (N := 2) rfl ?_); (try (refine gate_guard (by rfl) ?_; dsimp only)); refine box_event ?hg (N := 2) ?hd (cs := #[.slice A0_0 l0_0.length c0_0, .slice A0_1 l0_1.length c0_1]) (t := 35) ?hr ?_; (case hd => rfl); (case hg => rfl); (case hr => first | (go_simp; done) | (go_simp; rfl)); intro gb183 hg w4 hbox hb; have n0_ := Aside0.mk (below_step (by repeat (first | (with_reducible first | exact HB.out | apply below_alloc | apply pw_below_drewN | apply below_drew1) | exact HB.out)) hb); have n1_ := Aside0.mk (hbox); have n2_ := Aside0.mk ((by rw [hg]; exact (below_size (by repeat (first | (with_reducible first | exact HB.out | apply below_alloc | apply pw_below_drewN | apply below_drew1) | exact HB.out))) : w.heap.size ≤ gb183)); have n3_ := Aside0.mk ((by rw [hg]; exact (below_size (by repeat (first | (with_reducible first | exact HB.out | apply below_alloc | apply pw_below_drewN | apply below_drew1) | exact HB.out))) : w.heap.size ≤ gb183)); clear HB; have HB := n0_; have BK183 := n1_; have GW183 := n2_; have GE183 := n3_; clear n0_ n1_ n2_ n3_; clear hb hbox hg) | ((with_reducible refine gate_dst (N := 3) rfl ?_); (try (refine gate_guard (by rfl) ?_; dsimp only)); refine box_event ?hg (N := 3) ?hd (cs := #[.slice A1_0 l1_0.length c1_0, .slice A1_1 l1_1.length c1_1]) (t := 35) ?hr ?_; (case hd => rfl); (case hg => rfl); (case hr => first | (go_simp; done) | (go_simp; rfl)); intro gb184 hg w5 hbox hb; have n0_ := Aside0.mk (blk_below (g := gb183) (o := .cells #[.slice A0_0 l0_0.length c0_0, .slice A0_1 l0_1.length c0_1] 35 (0, 0)) (by (with_reducible repeat (first | refine blk_drewN ?_ _ | refine blk_drew ?_ | refine blk_alloc ?_ _)); exact BK183.out) hb); have n1_ := Aside0.mk (below_step (by repeat (first | (with_reducible first | exact HB.out | apply below_alloc | apply pw_below_drewN | apply below_drew1 | refine below_set ?_ GE183.out) | exact HB.out)) hb); have n2_ := Aside0.mk (hbox); have n3_ := Aside0.mk ((by rw [hg]; exact (below_size (by repeat (first | (with_reducible first | exact HB.out | apply below_alloc | apply pw_below_drewN | apply below_drew1 | refine below_set ?_ GE183.out) | exact HB.out))) : w.heap.size ≤ gb184)); have n4_ := Aside0.mk ((by rw [hg]; exact (below_size (by repeat (first | (with_reducible first | exact HB.out | apply below_alloc | apply pw_below_drewN | apply below_drew1 | refine below_set ?_ GE183.out) | exact HB.out))) : w.heap.size ≤ gb184)); have n5_ := Aside0.mk ((by rw [hg]; exact Nat.ne_of_lt (blk_lt (g := gb183) (o := .cells #[.slice A0_0 l0_0.length c0_0, .slice A0_1 l0_1.length c0_1] 35 (0, 0)) (by (with_reducible repeat (first | refine blk_drewN ?_ _ | refine blk_drew ?_ | refine blk_alloc ?_ _)); exact BK183.out)) : gb183 ≠ gb184)); have n6_ := Aside0.mk ((by rw [hg]; exact Nat.ne_of_gt (blk_lt (g := gb183) (o := .cells #[.slice A0_0 l0_0.length c0_0, .slice A0_1 l0_1.length c0_1] 35 (0, 0)) (by (with_reducible repeat (first | refine blk_drewN ?_ _ | refine blk_drew ?_ | refine blk_alloc ?_ _)); exact BK183.out)) : gb184 ≠ gb183)); clear BK183; clear HB; have BK183 := n0_; have HB := n1_; have BK184 := n2_; have GW184 := n3_; have GE184 := n4_; have NB183_184 := n5_; have NB184_183 := n6_; clear n0_ n1_ n2_ n3_ n4_ n5_ n6_; clear hb hbox hg))
  repeat (go_quiet (first | ((with_reducible refine gate_dst (N := 2) rfl ?_); (try (refine gate_guard (by rfl) ?_; dsimp only)); refine box_event ?hg (N := 2) ?hd (cs := #[.slice A0_0 l0_0.length c0_0, .slice A0_1 l0_1.length c0_1]) (t := 35) ?hr ?_; (case hd => rfl); (case hg => rfl); (case hr => first | (go_simp; done) | (go_simp; rfl)); intro gb183 hg w4 hbox hb; have n0_ := Aside0.mk (below_step (by repeat (first | (with_reducible first | exact HB.out | apply below_alloc | apply pw_below_drewN | apply below_drew1) | exact HB.out)) hb); have n1_ := Aside0.mk (hbox); have n2_ := Aside0.mk ((by rw [hg]; exact (below_size (by repeat (first | (with_reducible first | exact HB.out | apply below_alloc | apply pw_below_drewN | apply below_drew1) | exact HB.out))) : w.heap.size ≤ gb183)); have n3_ := Aside0.mk ((by rw [hg]; exact (below_size (by repeat (first | (with_reducible first | exact HB.out | apply below_alloc | apply pw_below_drewN | apply below_drew1) | exact HB.out))) : w.heap.size ≤ gb183)); clear HB; have HB := n0_; have BK183 := n1_; have GW183 := n2_; have GE183 := n3_; clear n0_ n1_ n2_ n3_; clear hb hbox hg) | ((with_reducible refine gate_dst (N := 3) rfl ?_); (try (refine gate_guard (by rfl) ?_; dsimp only)); refine box_event ?hg (N := 3) ?hd (cs := #[.slice A1_0 l1_0.length c1_0, .slice A1_1 l1_1.length c1_1]) (t := 35) ?hr ?_; (case hd => rfl); (case hg => rfl); (case hr => first | (go_simp; done) | (go_simp; rfl)); intro gb184 hg w5 hbox hb; have n0_ := Aside0.mk (blk_below (g := gb183) (o := .cells #[.slice A0_0 l0_0.length c0_0, .slice A0_1 l0_1.length c0_1] 35 (0, 0)) (by (with_reducible repeat (first | refine blk_drewN ?_ _ | refine blk_drew ?_ | refine blk_alloc ?_ _)); exact BK183.out) hb); have n1_ := Aside0.mk (below_step (by repeat (first | (with_reducible first | exact HB.out | apply below_alloc | apply pw_below_drewN | apply below_drew1 | refine below_set ?_ GE183.out) | exact HB.out)) hb); have n2_ := Aside0.mk (hbox); have n3_ := Aside0.mk ((by rw [hg]; exact (below_size (by repeat (first | (with_reducible first | exact HB.out | apply below_alloc | apply pw_below_drewN | apply below_drew1 | refine below_set ?_ GE183.out) | exact HB.out))) : w.heap.size ≤ gb184)); have n4_ := Aside0.mk ((by rw [hg]; exact (below_size (by repeat (first | (with_reducible first | exact HB.out | apply below_alloc | apply pw_below_drewN | apply below_drew1 | refine below_set ?_ GE183.out) | exact HB.out))) : w.heap.size ≤ gb184)); have n5_ := Aside0.mk ((by rw [hg]; exact Nat.ne_of_lt (blk_lt (g := gb183) (o := .cells #[.slice A0_0 l0_0.length c0_0, .slice A0_1 l0_1.length c0_1] 35 (0, 0)) (by (with_reducible repeat (first | refine blk_drewN ?_ _ | refine blk_drew ?_ | refine blk_alloc ?_ _)); exact BK183.out)) : gb183 ≠ gb184)); have n6_ := Aside0.mk ((by rw [hg]; exact Nat.ne_of_gt (blk_lt (g := gb183) (o := .cells #[.slice A0_0 l0_0.length c0_0, .slice A0_1 l0_1.length c0_1] 35 (0, 0)) (by (with_reducible repeat (first | refine blk_drewN ?_ _ | refine blk_drew ?_ | refine blk_alloc ?_ _)); exact BK183.out)) : gb184 ≠ gb183)); clear BK183; clear HB; have BK183 := n0_; have HB := n1_; have BK184 := n2_; have GW184 := n3_; have GE184 := n4_; have NB183_184 := n5_; have NB184_183 := n6_; clear n0_ n1_ n2_ n3_ n4_ n5_ n6_; clear hb hbox hg)); go_upto_region 1 with (first | ((with_reducible refine gate_dst (N := 2) rfl ?_); (try (refine gate_guard (by rfl) ?_; dsimp only)); refine box_event ?hg (N := 2) ?hd (cs := #[.slice A0_0 l0_0.length c0_0, .slice A0_1 l0_1.length c0_1]) (t := 35) ?hr ?_; (case hd => rfl); (case hg => rfl); (case hr => first | (go_simp; done) | (go_simp; rfl)); intro gb183 hg w4 hbox hb; have n0_ := Aside0.mk (below_step (by repeat (first | (with_reducible first | exact HB.out | apply below_alloc | apply pw_below_drewN | apply below_drew1) | exact HB.out)) hb); have n1_ := Aside0.mk (hbox); have n2_ := Aside0.mk ((by rw [hg]; exact (below_size (by repeat (first | (with_reducible first | exact HB.out | apply below_alloc | apply pw_below_drewN | apply below_drew1) | exact HB.out))) : w.heap.size ≤ gb183)); have n3_ := Aside0.mk ((by rw [hg]; exact (below_size (by repeat (first | (with_reducible first | exact HB.out | apply below_alloc | apply pw_below_drewN | apply below_drew1) | exact HB.out))) : w.heap.size ≤ gb183)); clear HB; have HB := n0_; have BK183 := n1_; have GW183 := n2_; have GE183 := n3_; clear n0_ n1_ n2_ n3_; clear hb hbox hg) | ((with_reducible refine gate_dst (N := 3) rfl ?_); (try (refine gate_guard (by rfl) ?_; dsimp only)); refine box_event ?hg (N := 3) ?hd (cs := #[.slice A1_0 l1_0.length c1_0, .slice A1_1 l1_1.length c1_1]) (t := 35) ?hr ?_; (case hd => rfl); (case hg => rfl); (case hr => first | (go_simp; done) | (go_simp; rfl)); intro gb184 hg w5 hbox hb; have n0_ := Aside0.mk (blk_below (g := gb183) (o := .cells #[.slice A0_0 l0_0.length c0_0, .slice A0_1 l0_1.length c0_1] 35 (0, 0)) (by (with_reducible repeat (first | refine blk_drewN ?_ _ | refine blk_drew ?_ | refine blk_alloc ?_ _)); exact BK183.out) hb); have n1_ := Aside0.mk (below_step (by repeat (first | (with_reducible first | exact HB.out | apply below_alloc | apply pw_below_drewN | apply below_drew1 | refine below_set ?_ GE183.out) | exact HB.out)) hb); have n2_ := Aside0.mk (hbox); have n3_ := Aside0.mk ((by rw [hg]; exact (below_size (by repeat (first | (with_reducible first | exact HB.out | apply below_alloc | apply pw_below_drewN | apply below_drew1 | refine below_set ?_ GE183.out) | exact HB.out))) : w.heap.size ≤ gb184)); have n4_ := Aside0.mk ((by rw [hg]; exact (below_size (by repeat (first | (with_reducible first | exact HB.out | apply below_alloc | apply pw_below_drewN | apply below_drew1 | refine below_set ?_ GE183.out) | exact HB.out))) : w.heap.size ≤ gb184)); have n5_ := Aside0.mk ((by rw [hg]; exact Nat.ne_of_lt (blk_lt (g := gb183) (o := .cells #[.slice A0_0 l0_0.length c0_0, .slice A0_1 l0_1.length c0_1] 35 (0, 0)) (by (with_reducible repeat (first | refine blk_drewN ?_ _ | refine blk_drew ?_ | refine blk_alloc ?_ _)); exact BK183.out)) : gb183 ≠ gb184)); have n6_ := Aside0.mk ((by rw [hg]; exact Nat.ne_of_gt (blk_lt (g := gb183) (o := .cells #[.slice A0_0 l0_0.length c0_0, .slice A0_1 l0_1.length c0_1] 35 (0, 0)) (by (with_reducible repeat (first | refine blk_drewN ?_ _ | refine blk_drew ?_ | refine blk_alloc ?_ _)); exact BK183.out)) : gb184 ≠ gb183)); clear BK183; clear HB; have BK183 := n0_; have HB := n1_; have BK184 := n2_; have GW184 := n3_; have GE184 := n4_; have NB183_184 := n5_; have NB184_183 := n6_; clear n0_ n1_ n2_ n3_ n4_ n5_ n6_; clear hb hbox hg)))
  (try simp only [Act.put, List.setIfInBounds_toArray, List.set_cons_zero, List.set_cons_succ])
  go_cut [23] (fun v23 wc => ∃ (kq : Nat) (x23_2 : Bool), v23 = .bool x23_2 ∧ Aside0 (rondeauref09_Same.j0 kq x23_2 l0_0 l0_1 l1_0 l1_1 = some r) ∧ Aside0 (kq ≤ k) ∧ Aside0 (wc.heap[gb183]? = some (.cells #[(.slice A0_0 l0_0.length c0_0), (.slice A0_1 l0_1.length c0_1)] 35 (0, 0))) ∧ Aside0 (wc.heap[gb184]? = some (.cells #[(.slice A1_0 l1_0.length c1_0), (.slice A1_1 l1_1.length c1_1)] 35 (0, 0))) ∧ Aside0 (Below w.heap.size w wc))
  case first =>
    have H := HC3.out
    clear HC3
    by_cases c6 : (l0_0.length : Int) = (l1_0.length : Int)
    · rw [if_pos c6] at H
      have c6b0 : ((l0_0.length : Int) == (l1_0.length : Int)) = true := beq_iff_eq.mpr c6
      have c6b1 : ((l0_0.length : Int) != (l1_0.length : Int)) = false := bne_eq_false_iff_eq.mpr c6
      have c6b2 : (l0_0.length == l1_0.length) = true := by first | simpa using c6 | (simp at c6 ⊢; omega)
      clear c6
      (first | rw [c6b0] | (simp only [i64_w, i32_w]; rw [c6b0]) | skip)
      have H' := Aside0.mk H
      clear H
      have hnb7 := NB183_184.out
      have hnc7 := NB184_183.out
      have hcz8_0 : w5.cell? ⟨gb183, 0, none⟩ = some (.slice A0_0 l0_0.length c0_0) := (blk_cell BK183.out 0).trans rfl
      have hcz8_1 : w5.cell? ⟨gb183, 1, none⟩ = some (.slice A0_1 l0_1.length c0_1) := (blk_cell BK183.out 1).trans rfl
      have hfz8_0 := blk_frozen BK183.out 0
      have hfz8_1 := blk_frozen BK183.out 1
      have hcz9_0 : w5.cell? ⟨gb184, 0, none⟩ = some (.slice A1_0 l1_0.length c1_0) := (blk_cell BK184.out 0).trans rfl
      have hcz9_1 : w5.cell? ⟨gb184, 1, none⟩ = some (.slice A1_1 l1_1.length c1_1) := (blk_cell BK184.out 1).trans rfl
      have hfz9_0 := blk_frozen BK184.out 0
      have hfz9_1 := blk_frozen BK184.out 1
      go_wp2
      repeat (go_quiet (fail); try go_wp2)
      go_meet
      case rel => exact ⟨_, (((l0_1.length : Int) != (l1_1.length : Int))), (by first | rfl | (simp; done) | (simp [*]; done)), H', ⟨by first | omega | exact Nat.le_refl _⟩, ⟨by (with_reducible repeat (first | refine blk_drewN ?_ _ | refine blk_drew ?_ | refine blk_alloc ?_ _)); exact BK183.out⟩, ⟨by (with_reducible repeat (first | refine blk_drewN ?_ _ | refine blk_drew ?_ | refine blk_alloc ?_ _)); exact BK184.out⟩, ⟨by repeat (first | (with_reducible first | exact HB.out | apply below_alloc | apply pw_below_drewN | apply below_drew1 | refine below_set ?_ GE183.out | refine below_set ?_ GE184.out) | exact HB.out)⟩⟩
    · rw [if_neg c6] at H
      have c6b0 : ((l0_0.length : Int) == (l1_0.length : Int)) = false := beq_eq_false_iff_ne.mpr c6
      have c6b1 : ((l0_0.length : Int) != (l1_0.length : Int)) = true := bne_iff_ne.mpr c6
      have c6b2 : (l0_0.length == l1_0.length) = false := by first | simpa using c6 | (simp at c6 ⊢; omega)
      (first | rw [c6b0] | (simp only [i64_w, i32_w]; rw [c6b0]) | skip)
      have H' := Aside0.mk H
      clear H
      have hnb10 := NB183_184.out
      have hnc10 := NB184_183.out
      have hcz11_0 : w5.cell? ⟨gb183, 0, none⟩ = some (.slice A0_0 l0_0.length c0_0) := (blk_cell BK183.out 0).trans rfl
      have hcz11_1 : w5.cell? ⟨gb183, 1, none⟩ = some (.slice A0_1 l0_1.length c0_1) := (blk_cell BK183.out 1).trans rfl
      have hfz11_0 := blk_frozen BK183.out 0
      have hfz11_1 := blk_frozen BK183.out 1
      have hcz12_0 : w5.cell? ⟨gb184, 0, none⟩ = some (.slice A1_0 l1_0.length c1_0) := (blk_cell BK184.out 0).trans rfl
      have hcz12_1 : w5.cell? ⟨gb184, 1, none⟩ = some (.slice A1_1 l1_1.length c1_1) := (blk_cell BK184.out 1).trans rfl
      have hfz12_0 := blk_frozen BK184.out 0
      have hfz12_1 := blk_frozen BK184.out 1
      go_wp2
      repeat (go_quiet (fail); try go_wp2)
      go_meet
      case rel => exact ⟨_, (true), (by first | rfl | (simp; done) | (simp [*]; done)), H', ⟨by first | omega | exact Nat.le_refl _⟩, ⟨by (with_reducible repeat (first | refine blk_drewN ?_ _ | refine blk_drew ?_ | refine blk_alloc ?_ _)); exact BK183.out⟩, ⟨by (with_reducible repeat (first | refine blk_drewN ?_ _ | refine blk_drew ?_ | refine blk_alloc ?_ _)); exact BK184.out⟩, ⟨by repeat (first | (with_reducible first | exact HB.out | apply below_alloc | apply pw_below_drewN | apply below_drew1 | refine below_set ?_ GE183.out | refine below_set ?_ GE184.out) | exact HB.out)⟩⟩
  case rest =>
    clear HC3
    try clear c1
    try clear c2
    try clear p2
    try clear c6
    try clear c6b0
    try clear c6b1
    try clear c6b2
    try clear c7
    try clear c10
    try clear hcz11_0
    try clear hcz11_1
    try clear hcz12_0
    try clear hcz12_1
    try clear hcz8_0
    try clear hcz8_1
    try clear hcz9_0
    try clear hcz9_1
    try clear hfz11_0
    try clear hfz11_1
    try clear hfz12_0
    try clear hfz12_1
    try clear hfz8_0
    try clear hfz8_1
    try clear hfz9_0
    try clear hfz9_1
    obtain ⟨kq, x23_2, rfl, HA, HJ2, BK183, BK184, HB⟩ := hcut
    cases kq with
    | zero => exact absurd HA.out (by simp [rondeauref09_Same.j0])
    | succ kj2 =>
      have H := HA.out
      clear HA
      simp only [rondeauref09_Same.j0] at H
      by_cases c13 : x23_2 = true
      · subst c13
        have H1 : (some false) = some r := by rw [if_pos rfl] at H; exact H
        clear H
        have H := H1
        clear H1
        obtain rfl := Option.some.inj H
        go_wp2
        repeat (go_quiet (fail); try go_wp2)
        go_ret
        exact ⟨by first | rfl | (simp [errW_none, errW_some] <;> rfl) | (simp [*, errW_none, errW_some] <;> rfl), by repeat (first | (with_reducible first | exact HB.out | apply below_alloc | apply pw_below_drewN | apply below_drew1 | refine below_set ?_ GE183.out | refine below_set ?_ GE184.out) | exact HB.out)⟩
      · replace c13 := Bool.eq_false_iff.mpr c13
        subst c13
        have H1 : (rondeauref09_Same.l0 kj2 0 l0_0 l0_1 l1_0 l1_1) = some r := by rw [if_neg (show ¬ (false = true) by decide)] at H; exact H
        clear H
        have H := H1
        clear H1
        have H' := Aside0.mk H
        clear H
        go_wp2
        repeat (go_quiet (fail); try go_wp2)
        go_loopg [5] kj2 (fun kq v5 w' => ∃ (x5_2 : Int), v5 = .int .i64 x5_2 ∧ Aside0 (rondeauref09_Same.l0 kq x5_2 l0_0 l0_1 l1_0 l1_1 = some r) ∧ Aside0 (kq ≤ kj2) ∧ Aside0 (w'.heap[gb183]? = some (.cells #[(.slice A0_0 l0_0.length c0_0), (.slice A0_1 l0_1.length c0_1)] 35 (0, 0))) ∧ Aside0 (w'.heap[gb184]? = some (.cells #[(.slice A1_0 l1_0.length c1_0), (.slice A1_1 l1_1.length c1_1)] 35 (0, 0))) ∧ Aside0 (Below w.heap.size w w'))
        case atStart => exact ⟨(0), (by first | rfl | (simp; done) | (simp [*]; done)), H', ⟨Nat.le_refl _⟩, ⟨by (with_reducible repeat (first | refine blk_drewN ?_ _ | refine blk_drew ?_ | refine blk_alloc ?_ _)); exact BK183.out⟩, ⟨by (with_reducible repeat (first | refine blk_drewN ?_ _ | refine blk_drew ?_ | refine blk_alloc ?_ _)); exact BK184.out⟩, ⟨by repeat (first | (with_reducible first | exact HB.out | apply below_alloc | apply pw_below_drewN | apply below_drew1 | refine below_set ?_ GE183.out | refine below_set ?_ GE184.out) | exact HB.out)⟩⟩
        case round =>
          clear H'
          try clear c1
          try clear c2
          try clear p2
          try clear c6
          try clear c6b0
          try clear c6b1
          try clear c6b2
          try clear c7
          try clear c10
          try clear c13
          try clear hcz11_0
          try clear hcz11_1
          try clear hcz12_0
          try clear hcz12_1
          try clear hcz8_0
          try clear hcz8_1
          try clear hcz9_0
          try clear hcz9_1
          try clear hfz11_0
          try clear hfz11_1
          try clear hfz12_0
          try clear hfz12_1
          try clear hfz8_0
          try clear hfz8_1
          try clear hfz9_0
          try clear hfz9_1
          try clear p2
          obtain ⟨x5_2, rfl, HA, HK2, BK183, BK184, HB⟩ := hrel
          cases gk with
          | zero => exact absurd HA.out (by simp [rondeauref09_Same.l0])
          | succ k2 =>
            have H := HA.out
            clear HA
            simp only [rondeauref09_Same.l0] at H
            by_cases c14 : x5_2 < (l0_0.length : Int)
            · rw [if_pos c14] at H
              have c14b0 : decide (x5_2 < (l0_0.length : Int)) = true := decide_eq_true c14
              clear c14
              by_cases c15 : 0 ≤ x5_2
              · rw [if_pos c15] at H
                have c15b0 : decide (0 ≤ x5_2) = true := decide_eq_true c15
                clear c15
                by_cases c16 : x5_2 < (l1_0.length : Int)
                · rw [if_pos c16] at H
                  have c16b0 : decide (x5_2 < (l1_0.length : Int)) = true := decide_eq_true c16
                  clear c16
                  by_cases c17 : (!(((rd_T70 l0_0 x5_2).f0) == ((rd_T70 l1_0 x5_2).f0)) || (!(((rd_T70 l0_0 x5_2).f1) == ((rd_T70 l1_0 x5_2).f1)) || (!(((rd_T70 l0_0 x5_2).f2) == ((rd_T70 l1_0 x5_2).f2))))) = true
                  · rw [if_pos c17] at H
                    have c17b0 : (!(((rd_T70 l0_0 x5_2).f0) == ((rd_T70 l1_0 x5_2).f0)) || (!(((rd_T70 l0_0 x5_2).f1) == ((rd_T70 l1_0 x5_2).f1)) || (!(((rd_T70 l0_0 x5_2).f2) == ((rd_T70 l1_0 x5_2).f2))))) = true := c17
                    clear c17
                    obtain rfl := Option.some.inj H
                    have hnb18 := NB183_184.out
                    have hnc18 := NB184_183.out
                    have hcz19_0 : wr.cell? ⟨gb183, 0, none⟩ = some (.slice A0_0 l0_0.length c0_0) := (blk_cell BK183.out 0).trans rfl
                    have hcz19_1 : wr.cell? ⟨gb183, 1, none⟩ = some (.slice A0_1 l0_1.length c0_1) := (blk_cell BK183.out 1).trans rfl
                    have hfz19_0 := blk_frozen BK183.out 0
                    have hfz19_1 := blk_frozen BK183.out 1
                    have p185 : 0 ≤ (x5_2 : Int) := of_decide_eq_true (by first | (with_reducible assumption) | assumption)
                    have q185 : x5_2 < (l0_0.length : Int) := of_decide_eq_true (by first | (with_reducible assumption) | assumption)
                    obtain ⟨ad185, e185, hx185_0, hx185_1, hx185_2⟩ := at_T70 HR0_0.out x5_2 p185 q185
                    cases e185
                    replace hx185_0 := (HB.out.cell (World.block_lt_of_cell? w _ hx185_0)).trans hx185_0
                    replace hx185_1 := (HB.out.cell (World.block_lt_of_cell? w _ hx185_1)).trans hx185_1
                    replace hx185_2 := (HB.out.cell (World.block_lt_of_cell? w _ hx185_2)).trans hx185_2
                    replace p185 := eq_true p185
                    replace q185 := eq_true q185
                    have hcz20_0 : wr.cell? ⟨gb184, 0, none⟩ = some (.slice A1_0 l1_0.length c1_0) := (blk_cell BK184.out 0).trans rfl
                    have hcz20_1 : wr.cell? ⟨gb184, 1, none⟩ = some (.slice A1_1 l1_1.length c1_1) := (blk_cell BK184.out 1).trans rfl
                    have hfz20_0 := blk_frozen BK184.out 0
                    have hfz20_1 := blk_frozen BK184.out 1
                    have p186 : 0 ≤ (x5_2 : Int) := of_decide_eq_true (by first | (with_reducible assumption) | assumption)
                    have q186 : x5_2 < (l1_0.length : Int) := of_decide_eq_true (by first | (with_reducible assumption) | assumption)
                    obtain ⟨ad186, e186, hx186_0, hx186_1, hx186_2⟩ := at_T70 HR1_0.out x5_2 p186 q186
                    cases e186
                    replace hx186_0 := (HB.out.cell (World.block_lt_of_cell? w _ hx186_0)).trans hx186_0
                    replace hx186_1 := (HB.out.cell (World.block_lt_of_cell? w _ hx186_1)).trans hx186_1
                    replace hx186_2 := (HB.out.cell (World.block_lt_of_cell? w _ hx186_2)).trans hx186_2
                    replace p186 := eq_true p186
                    replace q186 := eq_true q186
                    go_wp2
                    repeat (go_quiet (fail); try go_wp2)
                    go_ret
                    exact ⟨by first | rfl | (simp [errW_none, errW_some] <;> rfl) | (simp [*, errW_none, errW_some] <;> rfl), by repeat (first | (with_reducible first | exact HB.out | apply below_alloc | apply pw_below_drewN | apply below_drew1 | refine below_set ?_ GE183.out | refine below_set ?_ GE184.out) | exact HB.out)⟩
                  · rw [if_neg c17] at H
                    have c17b0 : (!(((rd_T70 l0_0 x5_2).f0) == ((rd_T70 l1_0 x5_2).f0)) || (!(((rd_T70 l0_0 x5_2).f1) == ((rd_T70 l1_0 x5_2).f1)) || (!(((rd_T70 l0_0 x5_2).f2) == ((rd_T70 l1_0 x5_2).f2))))) = false := by simpa using c17
                    clear c17
                    have H' := Aside0.mk H
                    clear H
                    have hnb21 := NB183_184.out
                    have hnc21 := NB184_183.out
                    have hcz22_0 : wr.cell? ⟨gb183, 0, none⟩ = some (.slice A0_0 l0_0.length c0_0) := (blk_cell BK183.out 0).trans rfl
                    have hcz22_1 : wr.cell? ⟨gb183, 1, none⟩ = some (.slice A0_1 l0_1.length c0_1) := (blk_cell BK183.out 1).trans rfl
                    have hfz22_0 := blk_frozen BK183.out 0
                    have hfz22_1 := blk_frozen BK183.out 1
                    have p185 : 0 ≤ (x5_2 : Int) := of_decide_eq_true (by first | (with_reducible assumption) | assumption)
                    have q185 : x5_2 < (l0_0.length : Int) := of_decide_eq_true (by first | (with_reducible assumption) | assumption)
                    obtain ⟨ad185, e185, hx185_0, hx185_1, hx185_2⟩ := at_T70 HR0_0.out x5_2 p185 q185
                    cases e185
                    replace hx185_0 := (HB.out.cell (World.block_lt_of_cell? w _ hx185_0)).trans hx185_0
                    replace hx185_1 := (HB.out.cell (World.block_lt_of_cell? w _ hx185_1)).trans hx185_1
                    replace hx185_2 := (HB.out.cell (World.block_lt_of_cell? w _ hx185_2)).trans hx185_2
                    replace p185 := eq_true p185
                    replace q185 := eq_true q185
                    have hcz23_0 : wr.cell? ⟨gb184, 0, none⟩ = some (.slice A1_0 l1_0.length c1_0) := (blk_cell BK184.out 0).trans rfl
                    have hcz23_1 : wr.cell? ⟨gb184, 1, none⟩ = some (.slice A1_1 l1_1.length c1_1) := (blk_cell BK184.out 1).trans rfl
                    have hfz23_0 := blk_frozen BK184.out 0
                    have hfz23_1 := blk_frozen BK184.out 1
                    have p186 : 0 ≤ (x5_2 : Int) := of_decide_eq_true (by first | (with_reducible assumption) | assumption)
                    have q186 : x5_2 < (l1_0.length : Int) := of_decide_eq_true (by first | (with_reducible assumption) | assumption)
                    obtain ⟨ad186, e186, hx186_0, hx186_1, hx186_2⟩ := at_T70 HR1_0.out x5_2 p186 q186
                    cases e186
                    replace hx186_0 := (HB.out.cell (World.block_lt_of_cell? w _ hx186_0)).trans hx186_0
                    replace hx186_1 := (HB.out.cell (World.block_lt_of_cell? w _ hx186_1)).trans hx186_1
                    replace hx186_2 := (HB.out.cell (World.block_lt_of_cell? w _ hx186_2)).trans hx186_2
                    replace p186 := eq_true p186
                    replace q186 := eq_true q186
                    go_wp2
                    repeat (go_quiet (fail); try go_wp2)
                    go_roundg k2
                    case measure => have := HJ2.out; have := HK2.out; omega
                    case rel => exact ⟨(wrap64 (x5_2 + 1)), (by first | rfl | (simp; done) | (simp [*]; done)), H', ⟨by have := HJ2.out; have := HK2.out; omega⟩, ⟨by (with_reducible repeat (first | refine blk_drewN ?_ _ | refine blk_drew ?_ | refine blk_alloc ?_ _)); exact BK183.out⟩, ⟨by (with_reducible repeat (first | refine blk_drewN ?_ _ | refine blk_drew ?_ | refine blk_alloc ?_ _)); exact BK184.out⟩, ⟨by repeat (first | (with_reducible first | exact HB.out | apply below_alloc | apply pw_below_drewN | apply below_drew1 | refine below_set ?_ GE183.out | refine below_set ?_ GE184.out) | exact HB.out)⟩⟩
                · rw [if_neg c16] at H
                  exact absurd H (by simp)
              · rw [if_neg c15] at H
                exact absurd H (by simp)
            · rw [if_neg c14] at H
              have c14b0 : decide (x5_2 < (l0_0.length : Int)) = false := decide_eq_false c14
              clear c14
              have H' := Aside0.mk H
              clear H
              have hnb24 := NB183_184.out
              have hnc24 := NB184_183.out
              have hcz25_0 : wr.cell? ⟨gb183, 0, none⟩ = some (.slice A0_0 l0_0.length c0_0) := (blk_cell BK183.out 0).trans rfl
              have hcz25_1 : wr.cell? ⟨gb183, 1, none⟩ = some (.slice A0_1 l0_1.length c0_1) := (blk_cell BK183.out 1).trans rfl
              have hfz25_0 := blk_frozen BK183.out 0
              have hfz25_1 := blk_frozen BK183.out 1
              go_wp2
              repeat (go_quiet (fail); try go_wp2)
              go_loopg [6] k2 (fun kq v6 w' => ∃ (x6_3 : Int), v6 = .int .i64 x6_3 ∧ Aside0 (rondeauref09_Same.l1 kq x6_3 l0_0 l0_1 l1_0 l1_1 = some r) ∧ Aside0 (kq ≤ k2) ∧ Aside0 (w'.heap[gb183]? = some (.cells #[(.slice A0_0 l0_0.length c0_0), (.slice A0_1 l0_1.length c0_1)] 35 (0, 0))) ∧ Aside0 (w'.heap[gb184]? = some (.cells #[(.slice A1_0 l1_0.length c1_0), (.slice A1_1 l1_1.length c1_1)] 35 (0, 0))) ∧ Aside0 (Below w.heap.size w w'))
              case atStart => exact ⟨(0), (by first | rfl | (simp; done) | (simp [*]; done)), H', ⟨Nat.le_refl _⟩, ⟨by (with_reducible repeat (first | refine blk_drewN ?_ _ | refine blk_drew ?_ | refine blk_alloc ?_ _)); exact BK183.out⟩, ⟨by (with_reducible repeat (first | refine blk_drewN ?_ _ | refine blk_drew ?_ | refine blk_alloc ?_ _)); exact BK184.out⟩, ⟨by repeat (first | (with_reducible first | exact HB.out | apply below_alloc | apply pw_below_drewN | apply below_drew1 | refine below_set ?_ GE183.out | refine below_set ?_ GE184.out) | exact HB.out)⟩⟩
              case round =>
                clear H'
                try clear c1
                try clear p1
                try clear q1
                try clear hx1
                try clear c2
                try clear p2
                try clear c6
                try clear c6b0
                try clear c6b1
                try clear c6b2
                try clear p6
                try clear c7
                try clear c10
                try clear c13
                try clear c14
                try clear c14b0
                try clear c15
                try clear c15b0
                try clear c16
                try clear c16b0
                try clear c17
                try clear c17b0
                try clear c18
                try clear p18
                try clear q18
                try clear hx18
                try clear c21
                try clear c24
                try clear hcz11_0
                try clear hcz11_1
                try clear hcz12_0
                try clear hcz12_1
                try clear hcz19_0
                try clear hcz19_1
                try clear hcz20_0
                try clear hcz20_1
                try clear hcz22_0
                try clear hcz22_1
                try clear hcz23_0
                try clear hcz23_1
                try clear hcz25_0
                try clear hcz25_1
                try clear hcz8_0
                try clear hcz8_1
                try clear hcz9_0
                try clear hcz9_1
                try clear hfz11_0
                try clear hfz11_1
                try clear hfz12_0
                try clear hfz12_1
                try clear hfz19_0
                try clear hfz19_1
                try clear hfz20_0
                try clear hfz20_1
                try clear hfz22_0
                try clear hfz22_1
                try clear hfz23_0
                try clear hfz23_1
                try clear hfz25_0
                try clear hfz25_1
                try clear hfz8_0
                try clear hfz8_1
                try clear hfz9_0
                try clear hfz9_1
                try clear hx185_0
                try clear hx185_1
                try clear hx185_2
                try clear hx186_0
                try clear hx186_1
                try clear hx186_2
                try clear p185
                try clear p186
                try clear p2
                try clear q185
                try clear q186
                obtain ⟨x6_3, rfl, HA, HK3, BK183, BK184, HB⟩ := hrel
                cases gk with
                | zero => exact absurd HA.out (by simp [rondeauref09_Same.l1])
                | succ k3 =>
                  have H := HA.out
                  clear HA
                  simp only [rondeauref09_Same.l1] at H
                  by_cases c26 : x6_3 < (l0_1.length : Int)
                  · rw [if_pos c26] at H
                    have c26b0 : decide (x6_3 < (l0_1.length : Int)) = true := decide_eq_true c26
                    clear c26
                    by_cases c27 : 0 ≤ x6_3
                    · rw [if_pos c27] at H
                      have c27b0 : decide (0 ≤ x6_3) = true := decide_eq_true c27
                      clear c27
                      by_cases c28 : x6_3 < (l1_1.length : Int)
                      · rw [if_pos c28] at H
                        have c28b0 : decide (x6_3 < (l1_1.length : Int)) = true := decide_eq_true c28
                        clear c28
                        by_cases c29 : ((rd_L4 l0_1 x6_3).length : Int) = ((rd_L4 l1_1 x6_3).length : Int)
                        · rw [if_pos c29] at H
                          have c29b0 : (((rd_L4 l0_1 x6_3).length : Int) == ((rd_L4 l1_1 x6_3).length : Int)) = true := beq_iff_eq.mpr c29
                          have c29b1 : (((rd_L4 l0_1 x6_3).length : Int) != ((rd_L4 l1_1 x6_3).length : Int)) = false := bne_eq_false_iff_eq.mpr c29
                          have c29b2 : ((rd_L4 l0_1 x6_3).length == (rd_L4 l1_1 x6_3).length) = true := by first | simpa using c29 | (simp at c29 ⊢; omega)
                          clear c29
                          have H' := Aside0.mk H
                          clear H
                          have hnb30 := NB183_184.out
                          have hnc30 := NB184_183.out
                          have hcz31_0 : wr.cell? ⟨gb183, 0, none⟩ = some (.slice A0_0 l0_0.length c0_0) := (blk_cell BK183.out 0).trans rfl
                          have hcz31_1 : wr.cell? ⟨gb183, 1, none⟩ = some (.slice A0_1 l0_1.length c0_1) := (blk_cell BK183.out 1).trans rfl
                          have hfz31_0 := blk_frozen BK183.out 0
                          have hfz31_1 := blk_frozen BK183.out 1
                          have p187 : 0 ≤ (x6_3 : Int) := of_decide_eq_true (by first | (with_reducible assumption) | assumption)
                          have q187 : x6_3 < (l0_1.length : Int) := of_decide_eq_true (by first | (with_reducible assumption) | assumption)
                          obtain ⟨ad187, A187_0, c187_0, e187, hx187_0, hl187_0, hi187_0⟩ := at_L4 HR0_1.out x6_3 p187 q187
                          cases e187
                          replace hx187_0 := (HB.out.cell (World.block_lt_of_cell? w _ hx187_0)).trans hx187_0
                          have HR187_0 := Aside0.mk hi187_0
                          have HC187_0 := Aside0.mk hl187_0
                          clear hi187_0 hl187_0
                          replace p187 := eq_true p187
                          replace q187 := eq_true q187
                          have hcz32_0 : wr.cell? ⟨gb184, 0, none⟩ = some (.slice A1_0 l1_0.length c1_0) := (blk_cell BK184.out 0).trans rfl
                          have hcz32_1 : wr.cell? ⟨gb184, 1, none⟩ = some (.slice A1_1 l1_1.length c1_1) := (blk_cell BK184.out 1).trans rfl
                          have hfz32_0 := blk_frozen BK184.out 0
                          have hfz32_1 := blk_frozen BK184.out 1
                          have p188 : 0 ≤ (x6_3 : Int) := of_decide_eq_true (by first | (with_reducible assumption) | assumption)
                          have q188 : x6_3 < (l1_1.length : Int) := of_decide_eq_true (by first | (with_reducible assumption) | assumption)
                          obtain ⟨ad188, A188_0, c188_0, e188, hx188_0, hl188_0, hi188_0⟩ := at_L4 HR1_1.out x6_3 p188 q188
                          cases e188
                          replace hx188_0 := (HB.out.cell (World.block_lt_of_cell? w _ hx188_0)).trans hx188_0
                          have HR188_0 := Aside0.mk hi188_0
                          have HC188_0 := Aside0.mk hl188_0
                          clear hi188_0 hl188_0
                          replace p188 := eq_true p188
                          replace q188 := eq_true q188
                          go_wp2
                          repeat (go_quiet (fail); try go_wp2)
                          go_loopg [7] k3 (fun kq v7 w' => ∃ (x7_4 : Int), v7 = .int .i64 x7_4 ∧ Aside0 (rondeauref09_Same.l2 kq x6_3 x7_4 l0_0 l0_1 l1_0 l1_1 = some r) ∧ Aside0 (kq ≤ k3) ∧ Aside0 (w'.heap[gb183]? = some (.cells #[(.slice A0_0 l0_0.length c0_0), (.slice (some ad187) l0_1.length c0_1)] 35 (0, 0))) ∧ Aside0 (w'.heap[gb184]? = some (.cells #[(.slice A1_0 l1_0.length c1_0), (.slice (some ad188) l1_1.length c1_1)] 35 (0, 0))) ∧ Aside0 (Below w.heap.size w w'))
                          case atStart => exact ⟨(0), (by first | rfl | (simp; done) | (simp [*]; done)), H', ⟨Nat.le_refl _⟩, ⟨by (with_reducible repeat (first | refine blk_drewN ?_ _ | refine blk_drew ?_ | refine blk_alloc ?_ _)); exact BK183.out⟩, ⟨by (with_reducible repeat (first | refine blk_drewN ?_ _ | refine blk_drew ?_ | refine blk_alloc ?_ _)); exact BK184.out⟩, ⟨by repeat (first | (with_reducible first | exact HB.out | apply below_alloc | apply pw_below_drewN | apply below_drew1 | refine below_set ?_ GE183.out | refine below_set ?_ GE184.out) | exact HB.out)⟩⟩
                          case round =>
                            clear H'
                            try clear c1
                            try clear p1
                            try clear q1
                            try clear hx1
                            try clear c2
                            try clear p2
                            try clear c3
                            try clear c6
                            try clear c6b0
                            try clear c6b1
                            try clear c6b2
                            try clear p6
                            try clear c7
                            try clear c10
                            try clear c13
                            try clear c14
                            try clear c14b0
                            try clear c15
                            try clear c15b0
                            try clear c16
                            try clear c16b0
                            try clear c17
                            try clear c17b0
                            try clear c18
                            try clear p18
                            try clear q18
                            try clear hx18
                            try clear c21
                            try clear c24
                            try clear c26
                            try clear c26b0
                            try clear c27
                            try clear c27b0
                            try clear c28
                            try clear c28b0
                            try clear c29
                            try clear c29b0
                            try clear c29b1
                            try clear c29b2
                            try clear c30
                            try clear hcz11_0
                            try clear hcz11_1
                            try clear hcz12_0
                            try clear hcz12_1
                            try clear hcz19_0
                            try clear hcz19_1
                            try clear hcz20_0
                            try clear hcz20_1
                            try clear hcz22_0
                            try clear hcz22_1
                            try clear hcz23_0
                            try clear hcz23_1
                            try clear hcz25_0
                            try clear hcz25_1
                            try clear hcz31_0
                            try clear hcz31_1
                            try clear hcz32_0
                            try clear hcz32_1
                            try clear hcz8_0
                            try clear hcz8_1
                            try clear hcz9_0
                            try clear hcz9_1
                            try clear hfz11_0
                            try clear hfz11_1
                            try clear hfz12_0
                            try clear hfz12_1
                            try clear hfz19_0
                            try clear hfz19_1
                            try clear hfz20_0
                            try clear hfz20_1
                            try clear hfz22_0
                            try clear hfz22_1
                            try clear hfz23_0
                            try clear hfz23_1
                            try clear hfz25_0
                            try clear hfz25_1
                            try clear hfz31_0
                            try clear hfz31_1
                            try clear hfz32_0
                            try clear hfz32_1
                            try clear hfz8_0
                            try clear hfz8_1
                            try clear hfz9_0
                            try clear hfz9_1
                            try clear hx185_0
                            try clear hx185_1
                            try clear hx185_2
                            try clear hx186_0
                            try clear hx186_1
                            try clear hx186_2
                            try clear hx187_0
                            try clear hx188_0
                            try clear p1
                            try clear p18
                            try clear p185
                            try clear p186
                            try clear p187
                            try clear p188
                            try clear p2
                            try clear p6
                            try clear q1
                            try clear q18
                            try clear q185
                            try clear q186
                            try clear q187
                            try clear q188
                            obtain ⟨x7_4, rfl, HA, HK4, BK183, BK184, HB⟩ := hrel
                            cases gk with
                            | zero => exact absurd HA.out (by simp [rondeauref09_Same.l2])
                            | succ k4 =>
                              have H := HA.out
                              clear HA
                              simp only [rondeauref09_Same.l2] at H
                              by_cases c33 : 0 ≤ x6_3
                              · rw [if_pos c33] at H
                                have c33b0 : decide (0 ≤ x6_3) = true := decide_eq_true c33
                                clear c33
                                by_cases c34 : x6_3 < (l0_1.length : Int)
                                · rw [if_pos c34] at H
                                  have c34b0 : decide (x6_3 < (l0_1.length : Int)) = true := decide_eq_true c34
                                  clear c34
                                  by_cases c35 : x7_4 < ((rd_L4 l0_1 x6_3).length : Int)
                                  · rw [if_pos c35] at H
                                    have c35b0 : decide (x7_4 < ((rd_L4 l0_1 x6_3).length : Int)) = true := decide_eq_true c35
                                    clear c35
                                    by_cases c36 : 0 ≤ x7_4
                                    · rw [if_pos c36] at H
                                      have c36b0 : decide (0 ≤ x7_4) = true := decide_eq_true c36
                                      clear c36
                                      by_cases c37 : x6_3 < (l1_1.length : Int)
                                      · rw [if_pos c37] at H
                                        have c37b0 : decide (x6_3 < (l1_1.length : Int)) = true := decide_eq_true c37
                                        clear c37
                                        by_cases c38 : x7_4 < ((rd_L4 l1_1 x6_3).length : Int)
                                        · rw [if_pos c38] at H
                                          have c38b0 : decide (x7_4 < ((rd_L4 l1_1 x6_3).length : Int)) = true := decide_eq_true c38
                                          clear c38
                                          by_cases c39 : (!(((rd_T24 (rd_L4 l0_1 x6_3) x7_4).f0) == ((rd_T24 (rd_L4 l1_1 x6_3) x7_4).f0)) || (!(((rd_T24 (rd_L4 l0_1 x6_3) x7_4).f1) == ((rd_T24 (rd_L4 l1_1 x6_3) x7_4).f1)) || (!(((rd_T24 (rd_L4 l0_1 x6_3) x7_4).f2) == ((rd_T24 (rd_L4 l1_1 x6_3) x7_4).f2)) || (!(((rd_T24 (rd_L4 l0_1 x6_3) x7_4).f3) == ((rd_T24 (rd_L4 l1_1 x6_3) x7_4).f3)) || (!(((rd_T24 (rd_L4 l0_1 x6_3) x7_4).f4) == ((rd_T24 (rd_L4 l1_1 x6_3) x7_4).f4)) || (!(((rd_T24 (rd_L4 l0_1 x6_3) x7_4).f5) == ((rd_T24 (rd_L4 l1_1 x6_3) x7_4).f5)))))))) = true
                                          · rw [if_pos c39] at H
                                            have c39b0 : (!(((rd_T24 (rd_L4 l0_1 x6_3) x7_4).f0) == ((rd_T24 (rd_L4 l1_1 x6_3) x7_4).f0)) || (!(((rd_T24 (rd_L4 l0_1 x6_3) x7_4).f1) == ((rd_T24 (rd_L4 l1_1 x6_3) x7_4).f1)) || (!(((rd_T24 (rd_L4 l0_1 x6_3) x7_4).f2) == ((rd_T24 (rd_L4 l1_1 x6_3) x7_4).f2)) || (!(((rd_T24 (rd_L4 l0_1 x6_3) x7_4).f3) == ((rd_T24 (rd_L4 l1_1 x6_3) x7_4).f3)) || (!(((rd_T24 (rd_L4 l0_1 x6_3) x7_4).f4) == ((rd_T24 (rd_L4 l1_1 x6_3) x7_4).f4)) || (!(((rd_T24 (rd_L4 l0_1 x6_3) x7_4).f5) == ((rd_T24 (rd_L4 l1_1 x6_3) x7_4).f5)))))))) = true := c39
                                            clear c39
                                            obtain rfl := Option.some.inj H
                                            have hnb40 := NB183_184.out
                                            have hnc40 := NB184_183.out
                                            have hcz41_0 : wr.cell? ⟨gb183, 0, none⟩ = some (.slice A0_0 l0_0.length c0_0) := (blk_cell BK183.out 0).trans rfl
                                            have hcz41_1 : wr.cell? ⟨gb183, 1, none⟩ = some (.slice (some ad187) l0_1.length c0_1) := (blk_cell BK183.out 1).trans rfl
                                            have hfz41_0 := blk_frozen BK183.out 0
                                            have hfz41_1 := blk_frozen BK183.out 1
                                            have p189 : 0 ≤ (x6_3 : Int) := of_decide_eq_true (by first | (with_reducible assumption) | assumption)
                                            have q189 : x6_3 < (l0_1.length : Int) := of_decide_eq_true (by first | (with_reducible assumption) | assumption)
                                            obtain ⟨ad189, A189_0, c189_0, e189, hx189_0, hl189_0, hi189_0⟩ := at_L4 HR0_1.out x6_3 p189 q189
                                            obtain rfl : ad187 = ad189 := (by injection e189)
                                            replace hx189_0 := (HB.out.cell (World.block_lt_of_cell? w _ hx189_0)).trans hx189_0
                                            have HR189_0 := Aside0.mk hi189_0
                                            have HC189_0 := Aside0.mk hl189_0
                                            clear hi189_0 hl189_0
                                            replace p189 := eq_true p189
                                            replace q189 := eq_true q189
                                            have p190 : 0 ≤ (x6_3 : Int) := of_decide_eq_true (by first | (with_reducible assumption) | assumption)
                                            have q190 : x6_3 < (l0_1.length : Int) := of_decide_eq_true (by first | (with_reducible assumption) | assumption)
                                            obtain ⟨ad190, A190_0, c190_0, e190, hx190_0, hl190_0, hi190_0⟩ := at_L4 HR0_1.out x6_3 p190 q190
                                            obtain rfl : ad187 = ad190 := (by injection e190)
                                            replace hx190_0 := (HB.out.cell (World.block_lt_of_cell? w _ hx190_0)).trans hx190_0
                                            have HR190_0 := Aside0.mk hi190_0
                                            have HC190_0 := Aside0.mk hl190_0
                                            clear hi190_0 hl190_0
                                            replace p190 := eq_true p190
                                            replace q190 := eq_true q190
                                            have ea_ := Option.some.inj (hx189_0.symm.trans hx190_0)
                                            injection ea_ with ea_ en_ ec_
                                            subst ea_
                                            subst ec_
                                            clear en_
                                            have p191 : 0 ≤ (x7_4 : Int) := of_decide_eq_true (by first | (with_reducible assumption) | assumption)
                                            have q191 : x7_4 < ((rd_L4 l0_1 x6_3).length : Int) := of_decide_eq_true (by first | (with_reducible assumption) | assumption)
                                            obtain ⟨ad191, e191, hx191_0, hx191_1, hx191_2, hx191_3, hx191_4, hx191_5⟩ := at_T24 HR190_0.out x7_4 p191 q191
                                            cases e191
                                            replace hx191_0 := (HB.out.cell (World.block_lt_of_cell? w _ hx191_0)).trans hx191_0
                                            replace hx191_1 := (HB.out.cell (World.block_lt_of_cell? w _ hx191_1)).trans hx191_1
                                            replace hx191_2 := (HB.out.cell (World.block_lt_of_cell? w _ hx191_2)).trans hx191_2
                                            replace hx191_3 := (HB.out.cell (World.block_lt_of_cell? w _ hx191_3)).trans hx191_3
                                            replace hx191_4 := (HB.out.cell (World.block_lt_of_cell? w _ hx191_4)).trans hx191_4
                                            replace hx191_5 := (HB.out.cell (World.block_lt_of_cell? w _ hx191_5)).trans hx191_5
                                            replace p191 := eq_true p191
                                            replace q191 := eq_true q191
                                            have hcz42_0 : wr.cell? ⟨gb184, 0, none⟩ = some (.slice A1_0 l1_0.length c1_0) := (blk_cell BK184.out 0).trans rfl
                                            have hcz42_1 : wr.cell? ⟨gb184, 1, none⟩ = some (.slice (some ad188) l1_1.length c1_1) := (blk_cell BK184.out 1).trans rfl
                                            have hfz42_0 := blk_frozen BK184.out 0
                                            have hfz42_1 := blk_frozen BK184.out 1
                                            have p192 : 0 ≤ (x6_3 : Int) := of_decide_eq_true (by first | (with_reducible assumption) | assumption)
                                            have q192 : x6_3 < (l1_1.length : Int) := of_decide_eq_true (by first | (with_reducible assumption) | assumption)
                                            obtain ⟨ad192, A192_0, c192_0, e192, hx192_0, hl192_0, hi192_0⟩ := at_L4 HR1_1.out x6_3 p192 q192
                                            obtain rfl : ad188 = ad192 := (by injection e192)
                                            replace hx192_0 := (HB.out.cell (World.block_lt_of_cell? w _ hx192_0)).trans hx192_0
                                            have HR192_0 := Aside0.mk hi192_0
                                            have HC192_0 := Aside0.mk hl192_0
                                            clear hi192_0 hl192_0
                                            replace p192 := eq_true p192
                                            replace q192 := eq_true q192
                                            have p193 : 0 ≤ (x7_4 : Int) := of_decide_eq_true (by first | (with_reducible assumption) | assumption)
                                            have q193 : x7_4 < ((rd_L4 l1_1 x6_3).length : Int) := of_decide_eq_true (by first | (with_reducible assumption) | assumption)
                                            obtain ⟨ad193, e193, hx193_0, hx193_1, hx193_2, hx193_3, hx193_4, hx193_5⟩ := at_T24 HR192_0.out x7_4 p193 q193
                                            cases e193
                                            replace hx193_0 := (HB.out.cell (World.block_lt_of_cell? w _ hx193_0)).trans hx193_0
                                            replace hx193_1 := (HB.out.cell (World.block_lt_of_cell? w _ hx193_1)).trans hx193_1
                                            replace hx193_2 := (HB.out.cell (World.block_lt_of_cell? w _ hx193_2)).trans hx193_2
                                            replace hx193_3 := (HB.out.cell (World.block_lt_of_cell? w _ hx193_3)).trans hx193_3
                                            replace hx193_4 := (HB.out.cell (World.block_lt_of_cell? w _ hx193_4)).trans hx193_4
                                            replace hx193_5 := (HB.out.cell (World.block_lt_of_cell? w _ hx193_5)).trans hx193_5
                                            replace p193 := eq_true p193
                                            replace q193 := eq_true q193
                                            go_wp2
                                            repeat (go_quiet (fail); try go_wp2)
                                            go_ret
                                            exact ⟨by first | rfl | (simp [errW_none, errW_some] <;> rfl) | (simp [*, errW_none, errW_some] <;> rfl), by repeat (first | (with_reducible first | exact HB.out | apply below_alloc | apply pw_below_drewN | apply below_drew1 | refine below_set ?_ GE183.out | refine below_set ?_ GE184.out) | exact HB.out)⟩
                                          · rw [if_neg c39] at H
                                            have c39b0 : (!(((rd_T24 (rd_L4 l0_1 x6_3) x7_4).f0) == ((rd_T24 (rd_L4 l1_1 x6_3) x7_4).f0)) || (!(((rd_T24 (rd_L4 l0_1 x6_3) x7_4).f1) == ((rd_T24 (rd_L4 l1_1 x6_3) x7_4).f1)) || (!(((rd_T24 (rd_L4 l0_1 x6_3) x7_4).f2) == ((rd_T24 (rd_L4 l1_1 x6_3) x7_4).f2)) || (!(((rd_T24 (rd_L4 l0_1 x6_3) x7_4).f3) == ((rd_T24 (rd_L4 l1_1 x6_3) x7_4).f3)) || (!(((rd_T24 (rd_L4 l0_1 x6_3) x7_4).f4) == ((rd_T24 (rd_L4 l1_1 x6_3) x7_4).f4)) || (!(((rd_T24 (rd_L4 l0_1 x6_3) x7_4).f5) == ((rd_T24 (rd_L4 l1_1 x6_3) x7_4).f5)))))))) = false := by simpa using c39
                                            clear c39
                                            have H' := Aside0.mk H
                                            clear H
                                            have hnb43 := NB183_184.out
                                            have hnc43 := NB184_183.out
                                            have hcz44_0 : wr.cell? ⟨gb183, 0, none⟩ = some (.slice A0_0 l0_0.length c0_0) := (blk_cell BK183.out 0).trans rfl
                                            have hcz44_1 : wr.cell? ⟨gb183, 1, none⟩ = some (.slice (some ad187) l0_1.length c0_1) := (blk_cell BK183.out 1).trans rfl
                                            have hfz44_0 := blk_frozen BK183.out 0
                                            have hfz44_1 := blk_frozen BK183.out 1
                                            have p189 : 0 ≤ (x6_3 : Int) := of_decide_eq_true (by first | (with_reducible assumption) | assumption)
                                            have q189 : x6_3 < (l0_1.length : Int) := of_decide_eq_true (by first | (with_reducible assumption) | assumption)
                                            obtain ⟨ad189, A189_0, c189_0, e189, hx189_0, hl189_0, hi189_0⟩ := at_L4 HR0_1.out x6_3 p189 q189
                                            obtain rfl : ad187 = ad189 := (by injection e189)
                                            replace hx189_0 := (HB.out.cell (World.block_lt_of_cell? w _ hx189_0)).trans hx189_0
                                            have HR189_0 := Aside0.mk hi189_0
                                            have HC189_0 := Aside0.mk hl189_0
                                            clear hi189_0 hl189_0
                                            replace p189 := eq_true p189
                                            replace q189 := eq_true q189
                                            have p190 : 0 ≤ (x6_3 : Int) := of_decide_eq_true (by first | (with_reducible assumption) | assumption)
                                            have q190 : x6_3 < (l0_1.length : Int) := of_decide_eq_true (by first | (with_reducible assumption) | assumption)
                                            obtain ⟨ad190, A190_0, c190_0, e190, hx190_0, hl190_0, hi190_0⟩ := at_L4 HR0_1.out x6_3 p190 q190
                                            obtain rfl : ad187 = ad190 := (by injection e190)
                                            replace hx190_0 := (HB.out.cell (World.block_lt_of_cell? w _ hx190_0)).trans hx190_0
                                            have HR190_0 := Aside0.mk hi190_0
                                            have HC190_0 := Aside0.mk hl190_0
                                            clear hi190_0 hl190_0
                                            replace p190 := eq_true p190
                                            replace q190 := eq_true q190
                                            have ea_ := Option.some.inj (hx189_0.symm.trans hx190_0)
                                            injection ea_ with ea_ en_ ec_
                                            subst ea_
                                            subst ec_
                                            clear en_
                                            have p191 : 0 ≤ (x7_4 : Int) := of_decide_eq_true (by first | (with_reducible assumption) | assumption)
                                            have q191 : x7_4 < ((rd_L4 l0_1 x6_3).length : Int) := of_decide_eq_true (by first | (with_reducible assumption) | assumption)
                                            obtain ⟨ad191, e191, hx191_0, hx191_1, hx191_2, hx191_3, hx191_4, hx191_5⟩ := at_T24 HR190_0.out x7_4 p191 q191
                                            cases e191
                                            replace hx191_0 := (HB.out.cell (World.block_lt_of_cell? w _ hx191_0)).trans hx191_0
                                            replace hx191_1 := (HB.out.cell (World.block_lt_of_cell? w _ hx191_1)).trans hx191_1
                                            replace hx191_2 := (HB.out.cell (World.block_lt_of_cell? w _ hx191_2)).trans hx191_2
                                            replace hx191_3 := (HB.out.cell (World.block_lt_of_cell? w _ hx191_3)).trans hx191_3
                                            replace hx191_4 := (HB.out.cell (World.block_lt_of_cell? w _ hx191_4)).trans hx191_4
                                            replace hx191_5 := (HB.out.cell (World.block_lt_of_cell? w _ hx191_5)).trans hx191_5
                                            replace p191 := eq_true p191
                                            replace q191 := eq_true q191
                                            have hcz45_0 : wr.cell? ⟨gb184, 0, none⟩ = some (.slice A1_0 l1_0.length c1_0) := (blk_cell BK184.out 0).trans rfl
                                            have hcz45_1 : wr.cell? ⟨gb184, 1, none⟩ = some (.slice (some ad188) l1_1.length c1_1) := (blk_cell BK184.out 1).trans rfl
                                            have hfz45_0 := blk_frozen BK184.out 0
                                            have hfz45_1 := blk_frozen BK184.out 1
                                            have p192 : 0 ≤ (x6_3 : Int) := of_decide_eq_true (by first | (with_reducible assumption) | assumption)
                                            have q192 : x6_3 < (l1_1.length : Int) := of_decide_eq_true (by first | (with_reducible assumption) | assumption)
                                            obtain ⟨ad192, A192_0, c192_0, e192, hx192_0, hl192_0, hi192_0⟩ := at_L4 HR1_1.out x6_3 p192 q192
                                            obtain rfl : ad188 = ad192 := (by injection e192)
                                            replace hx192_0 := (HB.out.cell (World.block_lt_of_cell? w _ hx192_0)).trans hx192_0
                                            have HR192_0 := Aside0.mk hi192_0
                                            have HC192_0 := Aside0.mk hl192_0
                                            clear hi192_0 hl192_0
                                            replace p192 := eq_true p192
                                            replace q192 := eq_true q192
                                            have p193 : 0 ≤ (x7_4 : Int) := of_decide_eq_true (by first | (with_reducible assumption) | assumption)
                                            have q193 : x7_4 < ((rd_L4 l1_1 x6_3).length : Int) := of_decide_eq_true (by first | (with_reducible assumption) | assumption)
                                            obtain ⟨ad193, e193, hx193_0, hx193_1, hx193_2, hx193_3, hx193_4, hx193_5⟩ := at_T24 HR192_0.out x7_4 p193 q193
                                            cases e193
                                            replace hx193_0 := (HB.out.cell (World.block_lt_of_cell? w _ hx193_0)).trans hx193_0
                                            replace hx193_1 := (HB.out.cell (World.block_lt_of_cell? w _ hx193_1)).trans hx193_1
                                            replace hx193_2 := (HB.out.cell (World.block_lt_of_cell? w _ hx193_2)).trans hx193_2
                                            replace hx193_3 := (HB.out.cell (World.block_lt_of_cell? w _ hx193_3)).trans hx193_3
                                            replace hx193_4 := (HB.out.cell (World.block_lt_of_cell? w _ hx193_4)).trans hx193_4
                                            replace hx193_5 := (HB.out.cell (World.block_lt_of_cell? w _ hx193_5)).trans hx193_5
                                            replace p193 := eq_true p193
                                            replace q193 := eq_true q193
                                            go_wp2
                                            repeat (go_quiet (fail); try go_wp2)
                                            go_roundg k4
                                            case measure => have := HJ2.out; have := HK2.out; have := HK3.out; have := HK4.out; omega
                                            case rel => exact ⟨(wrap64 (x7_4 + 1)), (by first | rfl | (simp; done) | (simp [*]; done)), H', ⟨by have := HJ2.out; have := HK2.out; have := HK3.out; have := HK4.out; omega⟩, ⟨by (with_reducible repeat (first | refine blk_drewN ?_ _ | refine blk_drew ?_ | refine blk_alloc ?_ _)); exact BK183.out⟩, ⟨by (with_reducible repeat (first | refine blk_drewN ?_ _ | refine blk_drew ?_ | refine blk_alloc ?_ _)); exact BK184.out⟩, ⟨by repeat (first | (with_reducible first | exact HB.out | apply below_alloc | apply pw_below_drewN | apply below_drew1 | refine below_set ?_ GE183.out | refine below_set ?_ GE184.out) | exact HB.out)⟩⟩
                                        · rw [if_neg c38] at H
                                          exact absurd H (by simp)
                                      · rw [if_neg c37] at H
                                        exact absurd H (by simp)
                                    · rw [if_neg c36] at H
                                      exact absurd H (by simp)
                                  · rw [if_neg c35] at H
                                    have c35b0 : decide (x7_4 < ((rd_L4 l0_1 x6_3).length : Int)) = false := decide_eq_false c35
                                    clear c35
                                    have H' := Aside0.mk H
                                    clear H
                                    have hnb46 := NB183_184.out
                                    have hnc46 := NB184_183.out
                                    have hcz47_0 : wr.cell? ⟨gb183, 0, none⟩ = some (.slice A0_0 l0_0.length c0_0) := (blk_cell BK183.out 0).trans rfl
                                    have hcz47_1 : wr.cell? ⟨gb183, 1, none⟩ = some (.slice (some ad187) l0_1.length c0_1) := (blk_cell BK183.out 1).trans rfl
                                    have hfz47_0 := blk_frozen BK183.out 0
                                    have hfz47_1 := blk_frozen BK183.out 1
                                    have p189 : 0 ≤ (x6_3 : Int) := of_decide_eq_true (by first | (with_reducible assumption) | assumption)
                                    have q189 : x6_3 < (l0_1.length : Int) := of_decide_eq_true (by first | (with_reducible assumption) | assumption)
                                    obtain ⟨ad189, A189_0, c189_0, e189, hx189_0, hl189_0, hi189_0⟩ := at_L4 HR0_1.out x6_3 p189 q189
                                    obtain rfl : ad187 = ad189 := (by injection e189)
                                    replace hx189_0 := (HB.out.cell (World.block_lt_of_cell? w _ hx189_0)).trans hx189_0
                                    have HR189_0 := Aside0.mk hi189_0
                                    have HC189_0 := Aside0.mk hl189_0
                                    clear hi189_0 hl189_0
                                    replace p189 := eq_true p189
                                    replace q189 := eq_true q189
                                    go_wp2
                                    repeat (go_quiet (fail); try go_wp2)
                                    go_roundg k4
                                    case measure => have := HJ2.out; have := HK2.out; have := HK3.out; have := HK4.out; omega
                                    case rel => exact ⟨(wrap64 (x6_3 + 1)), (by first | rfl | (simp; done) | (simp [*]; done)), H', ⟨by have := HJ2.out; have := HK2.out; have := HK3.out; have := HK4.out; omega⟩, ⟨by (with_reducible repeat (first | refine blk_drewN ?_ _ | refine blk_drew ?_ | refine blk_alloc ?_ _)); exact BK183.out⟩, ⟨by (with_reducible repeat (first | refine blk_drewN ?_ _ | refine blk_drew ?_ | refine blk_alloc ?_ _)); exact BK184.out⟩, ⟨by repeat (first | (with_reducible first | exact HB.out | apply below_alloc | apply pw_below_drewN | apply below_drew1 | refine below_set ?_ GE183.out | refine below_set ?_ GE184.out) | exact HB.out)⟩⟩
                                · rw [if_neg c34] at H
                                  exact absurd H (by simp)
                              · rw [if_neg c33] at H
                                exact absurd H (by simp)
                        · rw [if_neg c29] at H
                          have c29b0 : (((rd_L4 l0_1 x6_3).length : Int) == ((rd_L4 l1_1 x6_3).length : Int)) = false := beq_eq_false_iff_ne.mpr c29
                          have c29b1 : (((rd_L4 l0_1 x6_3).length : Int) != ((rd_L4 l1_1 x6_3).length : Int)) = true := bne_iff_ne.mpr c29
                          have c29b2 : ((rd_L4 l0_1 x6_3).length == (rd_L4 l1_1 x6_3).length) = false := by first | simpa using c29 | (simp at c29 ⊢; omega)
                          obtain rfl := Option.some.inj H
                          have hnb48 := NB183_184.out
                          have hnc48 := NB184_183.out
                          have hcz49_0 : wr.cell? ⟨gb183, 0, none⟩ = some (.slice A0_0 l0_0.length c0_0) := (blk_cell BK183.out 0).trans rfl
                          have hcz49_1 : wr.cell? ⟨gb183, 1, none⟩ = some (.slice A0_1 l0_1.length c0_1) := (blk_cell BK183.out 1).trans rfl
                          have hfz49_0 := blk_frozen BK183.out 0
                          have hfz49_1 := blk_frozen BK183.out 1
                          have p187 : 0 ≤ (x6_3 : Int) := of_decide_eq_true (by first | (with_reducible assumption) | assumption)
                          have q187 : x6_3 < (l0_1.length : Int) := of_decide_eq_true (by first | (with_reducible assumption) | assumption)
                          obtain ⟨ad187, A187_0, c187_0, e187, hx187_0, hl187_0, hi187_0⟩ := at_L4 HR0_1.out x6_3 p187 q187
                          cases e187
                          replace hx187_0 := (HB.out.cell (World.block_lt_of_cell? w _ hx187_0)).trans hx187_0
                          have HR187_0 := Aside0.mk hi187_0
                          have HC187_0 := Aside0.mk hl187_0
                          clear hi187_0 hl187_0
                          replace p187 := eq_true p187
                          replace q187 := eq_true q187
                          have hcz50_0 : wr.cell? ⟨gb184, 0, none⟩ = some (.slice A1_0 l1_0.length c1_0) := (blk_cell BK184.out 0).trans rfl
                          have hcz50_1 : wr.cell? ⟨gb184, 1, none⟩ = some (.slice A1_1 l1_1.length c1_1) := (blk_cell BK184.out 1).trans rfl
                          have hfz50_0 := blk_frozen BK184.out 0
                          have hfz50_1 := blk_frozen BK184.out 1
                          have p188 : 0 ≤ (x6_3 : Int) := of_decide_eq_true (by first | (with_reducible assumption) | assumption)
                          have q188 : x6_3 < (l1_1.length : Int) := of_decide_eq_true (by first | (with_reducible assumption) | assumption)
                          obtain ⟨ad188, A188_0, c188_0, e188, hx188_0, hl188_0, hi188_0⟩ := at_L4 HR1_1.out x6_3 p188 q188
                          cases e188
                          replace hx188_0 := (HB.out.cell (World.block_lt_of_cell? w _ hx188_0)).trans hx188_0
                          have HR188_0 := Aside0.mk hi188_0
                          have HC188_0 := Aside0.mk hl188_0
                          clear hi188_0 hl188_0
                          replace p188 := eq_true p188
                          replace q188 := eq_true q188
                          go_wp2
                          repeat (go_quiet (fail); try go_wp2)
                          go_ret
                          exact ⟨by first | rfl | (simp [errW_none, errW_some] <;> rfl) | (simp [*, errW_none, errW_some] <;> rfl), by repeat (first | (with_reducible first | exact HB.out | apply below_alloc | apply pw_below_drewN | apply below_drew1 | refine below_set ?_ GE183.out | refine below_set ?_ GE184.out) | exact HB.out)⟩
                      · rw [if_neg c28] at H
                        exact absurd H (by simp)
                    · rw [if_neg c27] at H
                      exact absurd H (by simp)
                  · rw [if_neg c26] at H
                    have c26b0 : decide (x6_3 < (l0_1.length : Int)) = false := decide_eq_false c26
                    clear c26
                    obtain rfl := Option.some.inj H
                    have hnb51 := NB183_184.out
                    have hnc51 := NB184_183.out
                    have hcz52_0 : wr.cell? ⟨gb183, 0, none⟩ = some (.slice A0_0 l0_0.length c0_0) := (blk_cell BK183.out 0).trans rfl
                    have hcz52_1 : wr.cell? ⟨gb183, 1, none⟩ = some (.slice A0_1 l0_1.length c0_1) := (blk_cell BK183.out 1).trans rfl
                    have hfz52_0 := blk_frozen BK183.out 0
                    have hfz52_1 := blk_frozen BK183.out 1
                    go_wp2
                    repeat (go_quiet (fail); try go_wp2)
                    go_ret
                    exact ⟨by first | rfl | (simp [errW_none, errW_some] <;> rfl) | (simp [*, errW_none, errW_some] <;> rfl), by repeat (first | (with_reducible first | exact HB.out | apply below_alloc | apply pw_below_drewN | apply below_drew1 | refine below_set ?_ GE183.out | refine below_set ?_ GE184.out) | exact HB.out)⟩

end Go.Proofs.Ytklkboibpglhjaa.PRef
