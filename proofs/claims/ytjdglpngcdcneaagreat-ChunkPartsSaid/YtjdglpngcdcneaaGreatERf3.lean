/- Layer 21: the document's events: which may be. -/
import Derived.Test.YtjdglpngcdcneaaGreatERf2
namespace Go.Proofs.YtjdglpngcdcneaaGreat
open Go.RowKit Go.WideShapes
set_option linter.unusedVariables false
set_option linter.unusedSimpArgs false
set_option linter.unusedSectionVars false
set_option maxRecDepth 20000 in
set_option maxHeartbeats 4000000 in
theorem rright_any (w : World) (e : Ev) : Calls Tryz.prog 13 #[evV e] w fun r w' => r = .returned (.bool (decide (rightE e))) ∧ Ext w w' := by
  obtain ⟨th, kd, rg, tk, vl⟩ := e
  have HN := Lib.hid (fun w => rname_any w kd)
  have HM := Lib.hid (fun w => rnames_any w kd)
  have HR := Lib.hid (fun w => rhas_ring w kd)
  have HT := Lib.hid (fun w => rhas_tick w kd)
  have HV := Lib.hid (fun w => rhas_val w kd)
  have hD := right_iff th kd rg tk vl
  obtain ⟨d, hd⟩ : ∃ d, decide (rightE ⟨th, kd, rg, tk, vl⟩) = d := ⟨_, rfl⟩
  rw [hd]
  dsimp only [evV]
  have h := (St.start noB w).alloc (evA th kd rg tk vl) 36
  generalize nameE kd = nm at *
  generalize namesE kd = ns at *
  generalize ringB kd = br at *
  generalize tickB kd = bt at *
  generalize valB kd = bv at *
  by_cases g1 : nm.toList = []
  · obtain rfl : d = false := by rw [← hd]; exact decide_eq_false (fun c => (hD.1 c).1 g1)
    clear hd hD
    go_enter Tryz.func13, Tryz.ntmps13
    go_wp2_with fail
    change St noB w (w.alloc (.cells #[.int .i64 th, .int .i64 kd, .int .i64 rg, .int .u64 tk, .int .u64 vl] 36)) [blkT w.heap.size (evA th kd rg tk vl) 36] at h
    generalize w.alloc (.cells #[.int .i64 th, .int .i64 kd, .int .i64 rg, .int .u64 tk, .int .u64 vl] 36) = wr at h ⊢
    generalize w.heap.size = b at h ⊢
    have c0 : _ = some (Value.int .i64 th) := cell_of_heap h.blk 0
    have c1 : _ = some (Value.int .i64 kd) := cell_of_heap h.blk 1
    have c2 : _ = some (Value.int .i64 rg) := cell_of_heap h.blk 2
    have c3 : _ = some (Value.int .u64 ((tk : Nat) : Int)) := cell_of_heap h.blk 3
    have c4 : _ = some (Value.int .u64 ((vl : Nat) : Int)) := cell_of_heap h.blk 4
    have HE := Lib.hid h.ends
    clear h
    go_wp2_with fail
    refine (HM.out _).mono ?_
    rintro _ _ ⟨rfl, rfl⟩
    go_wp2_with fail
    refine (HN.out _).mono ?_
    rintro _ w3 ⟨rfl, x3⟩
    have e0 := Ext.cell x3 c0
    have e2 := Ext.cell x3 c2
    have e3 := Ext.cell x3 c3
    have e4 := Ext.cell x3 c4
    clear c0 c1 c2 c3 c4 HM HN
    have HX := Lib.hid (HE.out.trans x3)
    clear x3
    go_wp2_with fail
    go_ret
    exact ⟨rfl, HX.out⟩
  have b1 : (nm.toList == []) = false := by rw [beq_eq_false_iff_ne]; exact g1
  by_cases g2 : th < 0
  · obtain rfl : d = false := by rw [← hd]; exact decide_eq_false (fun c => by have c := hD.1 c; have := c.2.1; omega)
    have b2 : decide (th < 0) = true := decide_eq_true g2
    clear hd hD
    go_enter Tryz.func13, Tryz.ntmps13
    go_wp2_with fail
    change St noB w (w.alloc (.cells #[.int .i64 th, .int .i64 kd, .int .i64 rg, .int .u64 tk, .int .u64 vl] 36)) [blkT w.heap.size (evA th kd rg tk vl) 36] at h
    generalize w.alloc (.cells #[.int .i64 th, .int .i64 kd, .int .i64 rg, .int .u64 tk, .int .u64 vl] 36) = wr at h ⊢
    generalize w.heap.size = b at h ⊢
    have c0 : _ = some (Value.int .i64 th) := cell_of_heap h.blk 0
    have c1 : _ = some (Value.int .i64 kd) := cell_of_heap h.blk 1
    have c2 : _ = some (Value.int .i64 rg) := cell_of_heap h.blk 2
    have c3 : _ = some (Value.int .u64 ((tk : Nat) : Int)) := cell_of_heap h.blk 3
    have c4 : _ = some (Value.int .u64 ((vl : Nat) : Int)) := cell_of_heap h.blk 4
    have HE := Lib.hid h.ends
    clear h
    go_wp2_with fail
    refine (HM.out _).mono ?_
    rintro _ _ ⟨rfl, rfl⟩
    go_wp2_with fail
    refine (HN.out _).mono ?_
    rintro _ w3 ⟨rfl, x3⟩
    have e0 := Ext.cell x3 c0
    have e2 := Ext.cell x3 c2
    have e3 := Ext.cell x3 c3
    have e4 := Ext.cell x3 c4
    clear c0 c1 c2 c3 c4 HM HN
    have HX := Lib.hid (HE.out.trans x3)
    clear x3
    go_wp2_with fail
    go_ret
    exact ⟨rfl, HX.out⟩
  have b2 : decide (th < 0) = false := decide_eq_false g2
  by_cases g3 : 7 < th
  · obtain rfl : d = false := by rw [← hd]; exact decide_eq_false (fun c => by have c := hD.1 c; have := c.2.2.1; omega)
    have b3 : decide (7 < th) = true := decide_eq_true g3
    clear hd hD
    go_enter Tryz.func13, Tryz.ntmps13
    go_wp2_with fail
    change St noB w (w.alloc (.cells #[.int .i64 th, .int .i64 kd, .int .i64 rg, .int .u64 tk, .int .u64 vl] 36)) [blkT w.heap.size (evA th kd rg tk vl) 36] at h
    generalize w.alloc (.cells #[.int .i64 th, .int .i64 kd, .int .i64 rg, .int .u64 tk, .int .u64 vl] 36) = wr at h ⊢
    generalize w.heap.size = b at h ⊢
    have c0 : _ = some (Value.int .i64 th) := cell_of_heap h.blk 0
    have c1 : _ = some (Value.int .i64 kd) := cell_of_heap h.blk 1
    have c2 : _ = some (Value.int .i64 rg) := cell_of_heap h.blk 2
    have c3 : _ = some (Value.int .u64 ((tk : Nat) : Int)) := cell_of_heap h.blk 3
    have c4 : _ = some (Value.int .u64 ((vl : Nat) : Int)) := cell_of_heap h.blk 4
    have HE := Lib.hid h.ends
    clear h
    go_wp2_with fail
    refine (HM.out _).mono ?_
    rintro _ _ ⟨rfl, rfl⟩
    go_wp2_with fail
    refine (HN.out _).mono ?_
    rintro _ w3 ⟨rfl, x3⟩
    have e0 := Ext.cell x3 c0
    have e2 := Ext.cell x3 c2
    have e3 := Ext.cell x3 c3
    have e4 := Ext.cell x3 c4
    clear c0 c1 c2 c3 c4 HM HN
    have HX := Lib.hid (HE.out.trans x3)
    clear x3
    go_wp2_with fail
    go_ret
    exact ⟨rfl, HX.out⟩
  have b3 : decide (7 < th) = false := decide_eq_false g3
  by_cases g4 : rg < 0
  · obtain rfl : d = false := by rw [← hd]; exact decide_eq_false (fun c => by have c := hD.1 c; have := c.2.2.2.1; omega)
    have b4 : decide (rg < 0) = true := decide_eq_true g4
    clear hd hD
    go_enter Tryz.func13, Tryz.ntmps13
    go_wp2_with fail
    change St noB w (w.alloc (.cells #[.int .i64 th, .int .i64 kd, .int .i64 rg, .int .u64 tk, .int .u64 vl] 36)) [blkT w.heap.size (evA th kd rg tk vl) 36] at h
    generalize w.alloc (.cells #[.int .i64 th, .int .i64 kd, .int .i64 rg, .int .u64 tk, .int .u64 vl] 36) = wr at h ⊢
    generalize w.heap.size = b at h ⊢
    have c0 : _ = some (Value.int .i64 th) := cell_of_heap h.blk 0
    have c1 : _ = some (Value.int .i64 kd) := cell_of_heap h.blk 1
    have c2 : _ = some (Value.int .i64 rg) := cell_of_heap h.blk 2
    have c3 : _ = some (Value.int .u64 ((tk : Nat) : Int)) := cell_of_heap h.blk 3
    have c4 : _ = some (Value.int .u64 ((vl : Nat) : Int)) := cell_of_heap h.blk 4
    have HE := Lib.hid h.ends
    clear h
    go_wp2_with fail
    refine (HM.out _).mono ?_
    rintro _ _ ⟨rfl, rfl⟩
    go_wp2_with fail
    refine (HN.out _).mono ?_
    rintro _ w3 ⟨rfl, x3⟩
    have e0 := Ext.cell x3 c0
    have e2 := Ext.cell x3 c2
    have e3 := Ext.cell x3 c3
    have e4 := Ext.cell x3 c4
    clear c0 c1 c2 c3 c4 HM HN
    have HX := Lib.hid (HE.out.trans x3)
    clear x3
    go_wp2_with fail
    go_ret
    exact ⟨rfl, HX.out⟩
  have b4 : decide (rg < 0) = false := decide_eq_false g4
  by_cases g5 : 7 < rg
  · obtain rfl : d = false := by rw [← hd]; exact decide_eq_false (fun c => by have c := hD.1 c; have := c.2.2.2.2.1; omega)
    have b5 : decide (7 < rg) = true := decide_eq_true g5
    clear hd hD
    go_enter Tryz.func13, Tryz.ntmps13
    go_wp2_with fail
    change St noB w (w.alloc (.cells #[.int .i64 th, .int .i64 kd, .int .i64 rg, .int .u64 tk, .int .u64 vl] 36)) [blkT w.heap.size (evA th kd rg tk vl) 36] at h
    generalize w.alloc (.cells #[.int .i64 th, .int .i64 kd, .int .i64 rg, .int .u64 tk, .int .u64 vl] 36) = wr at h ⊢
    generalize w.heap.size = b at h ⊢
    have c0 : _ = some (Value.int .i64 th) := cell_of_heap h.blk 0
    have c1 : _ = some (Value.int .i64 kd) := cell_of_heap h.blk 1
    have c2 : _ = some (Value.int .i64 rg) := cell_of_heap h.blk 2
    have c3 : _ = some (Value.int .u64 ((tk : Nat) : Int)) := cell_of_heap h.blk 3
    have c4 : _ = some (Value.int .u64 ((vl : Nat) : Int)) := cell_of_heap h.blk 4
    have HE := Lib.hid h.ends
    clear h
    go_wp2_with fail
    refine (HM.out _).mono ?_
    rintro _ _ ⟨rfl, rfl⟩
    go_wp2_with fail
    refine (HN.out _).mono ?_
    rintro _ w3 ⟨rfl, x3⟩
    have e0 := Ext.cell x3 c0
    have e2 := Ext.cell x3 c2
    have e3 := Ext.cell x3 c3
    have e4 := Ext.cell x3 c4
    clear c0 c1 c2 c3 c4 HM HN
    have HX := Lib.hid (HE.out.trans x3)
    clear x3
    go_wp2_with fail
    go_ret
    exact ⟨rfl, HX.out⟩
  have b5 : decide (7 < rg) = false := decide_eq_false g5
  by_cases g6 : (4611686018427387904 : Int) ≤ (tk : Int)
  · obtain rfl : d = false := by rw [← hd]; exact decide_eq_false (fun c => by have c := hD.1 c; have := c.2.2.2.2.2.1; omega)
    have b6 : decide ((4611686018427387904 : Int) ≤ (tk : Int)) = true := decide_eq_true g6
    clear hd hD
    go_enter Tryz.func13, Tryz.ntmps13
    go_wp2_with fail
    change St noB w (w.alloc (.cells #[.int .i64 th, .int .i64 kd, .int .i64 rg, .int .u64 tk, .int .u64 vl] 36)) [blkT w.heap.size (evA th kd rg tk vl) 36] at h
    generalize w.alloc (.cells #[.int .i64 th, .int .i64 kd, .int .i64 rg, .int .u64 tk, .int .u64 vl] 36) = wr at h ⊢
    generalize w.heap.size = b at h ⊢
    have c0 : _ = some (Value.int .i64 th) := cell_of_heap h.blk 0
    have c1 : _ = some (Value.int .i64 kd) := cell_of_heap h.blk 1
    have c2 : _ = some (Value.int .i64 rg) := cell_of_heap h.blk 2
    have c3 : _ = some (Value.int .u64 ((tk : Nat) : Int)) := cell_of_heap h.blk 3
    have c4 : _ = some (Value.int .u64 ((vl : Nat) : Int)) := cell_of_heap h.blk 4
    have HE := Lib.hid h.ends
    clear h
    go_wp2_with fail
    refine (HM.out _).mono ?_
    rintro _ _ ⟨rfl, rfl⟩
    go_wp2_with fail
    refine (HN.out _).mono ?_
    rintro _ w3 ⟨rfl, x3⟩
    have e0 := Ext.cell x3 c0
    have e2 := Ext.cell x3 c2
    have e3 := Ext.cell x3 c3
    have e4 := Ext.cell x3 c4
    clear c0 c1 c2 c3 c4 HM HN
    have HX := Lib.hid (HE.out.trans x3)
    clear x3
    go_wp2_with fail
    go_ret
    exact ⟨rfl, HX.out⟩
  have b6 : decide ((4611686018427387904 : Int) ≤ (tk : Int)) = false := decide_eq_false g6
  have hL : rightE ⟨th, kd, rg, tk, vl⟩ ↔ (br = true ∨ rg = 0) ∧ (bt = true ∨ tk = 0) ∧ (bv = true ∨ vl = 0) := by
    constructor
    · intro c; exact (hD.1 c).2.2.2.2.2.2
    · intro c; exact hD.2 ⟨g1, by omega, by omega, by omega, by omega, by omega, c.1, c.2.1, c.2.2⟩
  clear hD
  cases br
  · by_cases z1 : rg = 0
    rotate_left
    · obtain rfl : d = false := by rw [← hd]; exact decide_eq_false (fun c => by have := (hL.1 c).1; rcases this with q | q; cases q; exact z1 q)
      have y1 : (rg == 0) = false := by rw [beq_eq_false_iff_ne]; exact z1
      clear hd hL z1
      go_enter Tryz.func13, Tryz.ntmps13
      go_wp2_with fail
      change St noB w (w.alloc (.cells #[.int .i64 th, .int .i64 kd, .int .i64 rg, .int .u64 tk, .int .u64 vl] 36)) [blkT w.heap.size (evA th kd rg tk vl) 36] at h
      generalize w.alloc (.cells #[.int .i64 th, .int .i64 kd, .int .i64 rg, .int .u64 tk, .int .u64 vl] 36) = wr at h ⊢
      generalize w.heap.size = b at h ⊢
      have c0 : _ = some (Value.int .i64 th) := cell_of_heap h.blk 0
      have c1 : _ = some (Value.int .i64 kd) := cell_of_heap h.blk 1
      have c2 : _ = some (Value.int .i64 rg) := cell_of_heap h.blk 2
      have c3 : _ = some (Value.int .u64 ((tk : Nat) : Int)) := cell_of_heap h.blk 3
      have c4 : _ = some (Value.int .u64 ((vl : Nat) : Int)) := cell_of_heap h.blk 4
      have HE := Lib.hid h.ends
      clear h
      go_wp2_with fail
      refine (HM.out _).mono ?_
      rintro _ _ ⟨rfl, rfl⟩
      go_wp2_with fail
      refine (HN.out _).mono ?_
      rintro _ w3 ⟨rfl, x3⟩
      have e0 := Ext.cell x3 c0
      have e2 := Ext.cell x3 c2
      have e3 := Ext.cell x3 c3
      have e4 := Ext.cell x3 c4
      clear c0 c1 c2 c3 c4 HM HN
      have HX := Lib.hid (HE.out.trans x3)
      clear x3
      go_wp2_with fail
      refine (HR.out _).mono ?_
      rintro _ _ ⟨rfl, rfl⟩
      go_wp2_with fail
      go_ret
      exact ⟨rfl, HX.out⟩
    have hL2 : rightE ⟨th, kd, rg, tk, vl⟩ ↔ (bt = true ∨ tk = 0) ∧ (bv = true ∨ vl = 0) := ⟨fun c => (hL.1 c).2, fun c => hL.2 ⟨.inr z1, c⟩⟩
    have y1 : (rg == 0) = true := by rw [beq_iff_eq]; exact z1
    clear hL z1
    cases bt
    · by_cases z2 : tk = 0
      rotate_left
      · obtain rfl : d = false := by rw [← hd]; exact decide_eq_false (fun c => by have := (hL2.1 c).1; rcases this with q | q; cases q; exact z2 q)
        have y2 : ((tk : Int) == 0) = false := by rw [beq_eq_false_iff_ne]; omega
        clear hd hL2 z2
        go_enter Tryz.func13, Tryz.ntmps13
        go_wp2_with fail
        change St noB w (w.alloc (.cells #[.int .i64 th, .int .i64 kd, .int .i64 rg, .int .u64 tk, .int .u64 vl] 36)) [blkT w.heap.size (evA th kd rg tk vl) 36] at h
        generalize w.alloc (.cells #[.int .i64 th, .int .i64 kd, .int .i64 rg, .int .u64 tk, .int .u64 vl] 36) = wr at h ⊢
        generalize w.heap.size = b at h ⊢
        have c0 : _ = some (Value.int .i64 th) := cell_of_heap h.blk 0
        have c1 : _ = some (Value.int .i64 kd) := cell_of_heap h.blk 1
        have c2 : _ = some (Value.int .i64 rg) := cell_of_heap h.blk 2
        have c3 : _ = some (Value.int .u64 ((tk : Nat) : Int)) := cell_of_heap h.blk 3
        have c4 : _ = some (Value.int .u64 ((vl : Nat) : Int)) := cell_of_heap h.blk 4
        have HE := Lib.hid h.ends
        clear h
        go_wp2_with fail
        refine (HM.out _).mono ?_
        rintro _ _ ⟨rfl, rfl⟩
        go_wp2_with fail
        refine (HN.out _).mono ?_
        rintro _ w3 ⟨rfl, x3⟩
        have e0 := Ext.cell x3 c0
        have e2 := Ext.cell x3 c2
        have e3 := Ext.cell x3 c3
        have e4 := Ext.cell x3 c4
        clear c0 c1 c2 c3 c4 HM HN
        have HX := Lib.hid (HE.out.trans x3)
        clear x3
        go_wp2_with fail
        refine (HR.out _).mono ?_
        rintro _ _ ⟨rfl, rfl⟩
        go_wp2_with fail
        refine (HT.out _).mono ?_
        rintro _ _ ⟨rfl, rfl⟩
        go_wp2_with fail
        go_ret
        exact ⟨rfl, HX.out⟩
      have hL3 : rightE ⟨th, kd, rg, tk, vl⟩ ↔ (bv = true ∨ vl = 0) := ⟨fun c => (hL2.1 c).2, fun c => hL2.2 ⟨.inr z2, c⟩⟩
      have y2 : ((tk : Int) == 0) = true := by rw [beq_iff_eq]; omega
      clear hL2 z2
      cases bv
      · by_cases z3 : vl = 0
        · obtain rfl : d = true := by rw [← hd]; exact decide_eq_true (hL3.2 (.inr z3))
          have y3 : ((vl : Int) == 0) = true := by rw [beq_iff_eq]; omega
          clear hd hL3 z3
          go_enter Tryz.func13, Tryz.ntmps13
          go_wp2_with fail
          change St noB w (w.alloc (.cells #[.int .i64 th, .int .i64 kd, .int .i64 rg, .int .u64 tk, .int .u64 vl] 36)) [blkT w.heap.size (evA th kd rg tk vl) 36] at h
          generalize w.alloc (.cells #[.int .i64 th, .int .i64 kd, .int .i64 rg, .int .u64 tk, .int .u64 vl] 36) = wr at h ⊢
          generalize w.heap.size = b at h ⊢
          have c0 : _ = some (Value.int .i64 th) := cell_of_heap h.blk 0
          have c1 : _ = some (Value.int .i64 kd) := cell_of_heap h.blk 1
          have c2 : _ = some (Value.int .i64 rg) := cell_of_heap h.blk 2
          have c3 : _ = some (Value.int .u64 ((tk : Nat) : Int)) := cell_of_heap h.blk 3
          have c4 : _ = some (Value.int .u64 ((vl : Nat) : Int)) := cell_of_heap h.blk 4
          have HE := Lib.hid h.ends
          clear h
          go_wp2_with fail
          refine (HM.out _).mono ?_
          rintro _ _ ⟨rfl, rfl⟩
          go_wp2_with fail
          refine (HN.out _).mono ?_
          rintro _ w3 ⟨rfl, x3⟩
          have e0 := Ext.cell x3 c0
          have e2 := Ext.cell x3 c2
          have e3 := Ext.cell x3 c3
          have e4 := Ext.cell x3 c4
          clear c0 c1 c2 c3 c4 HM HN
          have HX := Lib.hid (HE.out.trans x3)
          clear x3
          go_wp2_with fail
          refine (HR.out _).mono ?_
          rintro _ _ ⟨rfl, rfl⟩
          go_wp2_with fail
          refine (HT.out _).mono ?_
          rintro _ _ ⟨rfl, rfl⟩
          go_wp2_with fail
          refine (HV.out _).mono ?_
          rintro _ _ ⟨rfl, rfl⟩
          go_wp2_with fail
          go_ret
          exact ⟨rfl, HX.out⟩
        · obtain rfl : d = false := by rw [← hd]; exact decide_eq_false (fun c => by have := hL3.1 c; rcases this with q | q; cases q; exact z3 q)
          have y3 : ((vl : Int) == 0) = false := by rw [beq_eq_false_iff_ne]; omega
          clear hd hL3 z3
          go_enter Tryz.func13, Tryz.ntmps13
          go_wp2_with fail
          change St noB w (w.alloc (.cells #[.int .i64 th, .int .i64 kd, .int .i64 rg, .int .u64 tk, .int .u64 vl] 36)) [blkT w.heap.size (evA th kd rg tk vl) 36] at h
          generalize w.alloc (.cells #[.int .i64 th, .int .i64 kd, .int .i64 rg, .int .u64 tk, .int .u64 vl] 36) = wr at h ⊢
          generalize w.heap.size = b at h ⊢
          have c0 : _ = some (Value.int .i64 th) := cell_of_heap h.blk 0
          have c1 : _ = some (Value.int .i64 kd) := cell_of_heap h.blk 1
          have c2 : _ = some (Value.int .i64 rg) := cell_of_heap h.blk 2
          have c3 : _ = some (Value.int .u64 ((tk : Nat) : Int)) := cell_of_heap h.blk 3
          have c4 : _ = some (Value.int .u64 ((vl : Nat) : Int)) := cell_of_heap h.blk 4
          have HE := Lib.hid h.ends
          clear h
          go_wp2_with fail
          refine (HM.out _).mono ?_
          rintro _ _ ⟨rfl, rfl⟩
          go_wp2_with fail
          refine (HN.out _).mono ?_
          rintro _ w3 ⟨rfl, x3⟩
          have e0 := Ext.cell x3 c0
          have e2 := Ext.cell x3 c2
          have e3 := Ext.cell x3 c3
          have e4 := Ext.cell x3 c4
          clear c0 c1 c2 c3 c4 HM HN
          have HX := Lib.hid (HE.out.trans x3)
          clear x3
          go_wp2_with fail
          refine (HR.out _).mono ?_
          rintro _ _ ⟨rfl, rfl⟩
          go_wp2_with fail
          refine (HT.out _).mono ?_
          rintro _ _ ⟨rfl, rfl⟩
          go_wp2_with fail
          refine (HV.out _).mono ?_
          rintro _ _ ⟨rfl, rfl⟩
          go_wp2_with fail
          go_ret
          exact ⟨rfl, HX.out⟩
      · obtain rfl : d = true := by rw [← hd]; exact decide_eq_true (hL3.2 (.inl rfl))
        clear hd hL3
        go_enter Tryz.func13, Tryz.ntmps13
        go_wp2_with fail
        change St noB w (w.alloc (.cells #[.int .i64 th, .int .i64 kd, .int .i64 rg, .int .u64 tk, .int .u64 vl] 36)) [blkT w.heap.size (evA th kd rg tk vl) 36] at h
        generalize w.alloc (.cells #[.int .i64 th, .int .i64 kd, .int .i64 rg, .int .u64 tk, .int .u64 vl] 36) = wr at h ⊢
        generalize w.heap.size = b at h ⊢
        have c0 : _ = some (Value.int .i64 th) := cell_of_heap h.blk 0
        have c1 : _ = some (Value.int .i64 kd) := cell_of_heap h.blk 1
        have c2 : _ = some (Value.int .i64 rg) := cell_of_heap h.blk 2
        have c3 : _ = some (Value.int .u64 ((tk : Nat) : Int)) := cell_of_heap h.blk 3
        have c4 : _ = some (Value.int .u64 ((vl : Nat) : Int)) := cell_of_heap h.blk 4
        have HE := Lib.hid h.ends
        clear h
        go_wp2_with fail
        refine (HM.out _).mono ?_
        rintro _ _ ⟨rfl, rfl⟩
        go_wp2_with fail
        refine (HN.out _).mono ?_
        rintro _ w3 ⟨rfl, x3⟩
        have e0 := Ext.cell x3 c0
        have e2 := Ext.cell x3 c2
        have e3 := Ext.cell x3 c3
        have e4 := Ext.cell x3 c4
        clear c0 c1 c2 c3 c4 HM HN
        have HX := Lib.hid (HE.out.trans x3)
        clear x3
        go_wp2_with fail
        refine (HR.out _).mono ?_
        rintro _ _ ⟨rfl, rfl⟩
        go_wp2_with fail
        refine (HT.out _).mono ?_
        rintro _ _ ⟨rfl, rfl⟩
        go_wp2_with fail
        refine (HV.out _).mono ?_
        rintro _ _ ⟨rfl, rfl⟩
        go_wp2_with fail
        go_ret
        exact ⟨rfl, HX.out⟩
    · have hL3 : rightE ⟨th, kd, rg, tk, vl⟩ ↔ (bv = true ∨ vl = 0) := ⟨fun c => (hL2.1 c).2, fun c => hL2.2 ⟨.inl rfl, c⟩⟩
      clear hL2
      cases bv
      · by_cases z3 : vl = 0
        · obtain rfl : d = true := by rw [← hd]; exact decide_eq_true (hL3.2 (.inr z3))
          have y3 : ((vl : Int) == 0) = true := by rw [beq_iff_eq]; omega
          clear hd hL3 z3
          go_enter Tryz.func13, Tryz.ntmps13
          go_wp2_with fail
          change St noB w (w.alloc (.cells #[.int .i64 th, .int .i64 kd, .int .i64 rg, .int .u64 tk, .int .u64 vl] 36)) [blkT w.heap.size (evA th kd rg tk vl) 36] at h
          generalize w.alloc (.cells #[.int .i64 th, .int .i64 kd, .int .i64 rg, .int .u64 tk, .int .u64 vl] 36) = wr at h ⊢
          generalize w.heap.size = b at h ⊢
          have c0 : _ = some (Value.int .i64 th) := cell_of_heap h.blk 0
          have c1 : _ = some (Value.int .i64 kd) := cell_of_heap h.blk 1
          have c2 : _ = some (Value.int .i64 rg) := cell_of_heap h.blk 2
          have c3 : _ = some (Value.int .u64 ((tk : Nat) : Int)) := cell_of_heap h.blk 3
          have c4 : _ = some (Value.int .u64 ((vl : Nat) : Int)) := cell_of_heap h.blk 4
          have HE := Lib.hid h.ends
          clear h
          go_wp2_with fail
          refine (HM.out _).mono ?_
          rintro _ _ ⟨rfl, rfl⟩
          go_wp2_with fail
          refine (HN.out _).mono ?_
          rintro _ w3 ⟨rfl, x3⟩
          have e0 := Ext.cell x3 c0
          have e2 := Ext.cell x3 c2
          have e3 := Ext.cell x3 c3
          have e4 := Ext.cell x3 c4
          clear c0 c1 c2 c3 c4 HM HN
          have HX := Lib.hid (HE.out.trans x3)
          clear x3
          go_wp2_with fail
          refine (HR.out _).mono ?_
          rintro _ _ ⟨rfl, rfl⟩
          go_wp2_with fail
          refine (HT.out _).mono ?_
          rintro _ _ ⟨rfl, rfl⟩
          go_wp2_with fail
          refine (HV.out _).mono ?_
          rintro _ _ ⟨rfl, rfl⟩
          go_wp2_with fail
          go_ret
          exact ⟨rfl, HX.out⟩
        · obtain rfl : d = false := by rw [← hd]; exact decide_eq_false (fun c => by have := hL3.1 c; rcases this with q | q; cases q; exact z3 q)
          have y3 : ((vl : Int) == 0) = false := by rw [beq_eq_false_iff_ne]; omega
          clear hd hL3 z3
          go_enter Tryz.func13, Tryz.ntmps13
          go_wp2_with fail
          change St noB w (w.alloc (.cells #[.int .i64 th, .int .i64 kd, .int .i64 rg, .int .u64 tk, .int .u64 vl] 36)) [blkT w.heap.size (evA th kd rg tk vl) 36] at h
          generalize w.alloc (.cells #[.int .i64 th, .int .i64 kd, .int .i64 rg, .int .u64 tk, .int .u64 vl] 36) = wr at h ⊢
          generalize w.heap.size = b at h ⊢
          have c0 : _ = some (Value.int .i64 th) := cell_of_heap h.blk 0
          have c1 : _ = some (Value.int .i64 kd) := cell_of_heap h.blk 1
          have c2 : _ = some (Value.int .i64 rg) := cell_of_heap h.blk 2
          have c3 : _ = some (Value.int .u64 ((tk : Nat) : Int)) := cell_of_heap h.blk 3
          have c4 : _ = some (Value.int .u64 ((vl : Nat) : Int)) := cell_of_heap h.blk 4
          have HE := Lib.hid h.ends
          clear h
          go_wp2_with fail
          refine (HM.out _).mono ?_
          rintro _ _ ⟨rfl, rfl⟩
          go_wp2_with fail
          refine (HN.out _).mono ?_
          rintro _ w3 ⟨rfl, x3⟩
          have e0 := Ext.cell x3 c0
          have e2 := Ext.cell x3 c2
          have e3 := Ext.cell x3 c3
          have e4 := Ext.cell x3 c4
          clear c0 c1 c2 c3 c4 HM HN
          have HX := Lib.hid (HE.out.trans x3)
          clear x3
          go_wp2_with fail
          refine (HR.out _).mono ?_
          rintro _ _ ⟨rfl, rfl⟩
          go_wp2_with fail
          refine (HT.out _).mono ?_
          rintro _ _ ⟨rfl, rfl⟩
          go_wp2_with fail
          refine (HV.out _).mono ?_
          rintro _ _ ⟨rfl, rfl⟩
          go_wp2_with fail
          go_ret
          exact ⟨rfl, HX.out⟩
      · obtain rfl : d = true := by rw [← hd]; exact decide_eq_true (hL3.2 (.inl rfl))
        clear hd hL3
        go_enter Tryz.func13, Tryz.ntmps13
        go_wp2_with fail
        change St noB w (w.alloc (.cells #[.int .i64 th, .int .i64 kd, .int .i64 rg, .int .u64 tk, .int .u64 vl] 36)) [blkT w.heap.size (evA th kd rg tk vl) 36] at h
        generalize w.alloc (.cells #[.int .i64 th, .int .i64 kd, .int .i64 rg, .int .u64 tk, .int .u64 vl] 36) = wr at h ⊢
        generalize w.heap.size = b at h ⊢
        have c0 : _ = some (Value.int .i64 th) := cell_of_heap h.blk 0
        have c1 : _ = some (Value.int .i64 kd) := cell_of_heap h.blk 1
        have c2 : _ = some (Value.int .i64 rg) := cell_of_heap h.blk 2
        have c3 : _ = some (Value.int .u64 ((tk : Nat) : Int)) := cell_of_heap h.blk 3
        have c4 : _ = some (Value.int .u64 ((vl : Nat) : Int)) := cell_of_heap h.blk 4
        have HE := Lib.hid h.ends
        clear h
        go_wp2_with fail
        refine (HM.out _).mono ?_
        rintro _ _ ⟨rfl, rfl⟩
        go_wp2_with fail
        refine (HN.out _).mono ?_
        rintro _ w3 ⟨rfl, x3⟩
        have e0 := Ext.cell x3 c0
        have e2 := Ext.cell x3 c2
        have e3 := Ext.cell x3 c3
        have e4 := Ext.cell x3 c4
        clear c0 c1 c2 c3 c4 HM HN
        have HX := Lib.hid (HE.out.trans x3)
        clear x3
        go_wp2_with fail
        refine (HR.out _).mono ?_
        rintro _ _ ⟨rfl, rfl⟩
        go_wp2_with fail
        refine (HT.out _).mono ?_
        rintro _ _ ⟨rfl, rfl⟩
        go_wp2_with fail
        refine (HV.out _).mono ?_
        rintro _ _ ⟨rfl, rfl⟩
        go_wp2_with fail
        go_ret
        exact ⟨rfl, HX.out⟩
  · have hL2 : rightE ⟨th, kd, rg, tk, vl⟩ ↔ (bt = true ∨ tk = 0) ∧ (bv = true ∨ vl = 0) := ⟨fun c => (hL.1 c).2, fun c => hL.2 ⟨.inl rfl, c⟩⟩
    clear hL
    cases bt
    · by_cases z2 : tk = 0
      rotate_left
      · obtain rfl : d = false := by rw [← hd]; exact decide_eq_false (fun c => by have := (hL2.1 c).1; rcases this with q | q; cases q; exact z2 q)
        have y2 : ((tk : Int) == 0) = false := by rw [beq_eq_false_iff_ne]; omega
        clear hd hL2 z2
        go_enter Tryz.func13, Tryz.ntmps13
        go_wp2_with fail
        change St noB w (w.alloc (.cells #[.int .i64 th, .int .i64 kd, .int .i64 rg, .int .u64 tk, .int .u64 vl] 36)) [blkT w.heap.size (evA th kd rg tk vl) 36] at h
        generalize w.alloc (.cells #[.int .i64 th, .int .i64 kd, .int .i64 rg, .int .u64 tk, .int .u64 vl] 36) = wr at h ⊢
        generalize w.heap.size = b at h ⊢
        have c0 : _ = some (Value.int .i64 th) := cell_of_heap h.blk 0
        have c1 : _ = some (Value.int .i64 kd) := cell_of_heap h.blk 1
        have c2 : _ = some (Value.int .i64 rg) := cell_of_heap h.blk 2
        have c3 : _ = some (Value.int .u64 ((tk : Nat) : Int)) := cell_of_heap h.blk 3
        have c4 : _ = some (Value.int .u64 ((vl : Nat) : Int)) := cell_of_heap h.blk 4
        have HE := Lib.hid h.ends
        clear h
        go_wp2_with fail
        refine (HM.out _).mono ?_
        rintro _ _ ⟨rfl, rfl⟩
        go_wp2_with fail
        refine (HN.out _).mono ?_
        rintro _ w3 ⟨rfl, x3⟩
        have e0 := Ext.cell x3 c0
        have e2 := Ext.cell x3 c2
        have e3 := Ext.cell x3 c3
        have e4 := Ext.cell x3 c4
        clear c0 c1 c2 c3 c4 HM HN
        have HX := Lib.hid (HE.out.trans x3)
        clear x3
        go_wp2_with fail
        refine (HR.out _).mono ?_
        rintro _ _ ⟨rfl, rfl⟩
        go_wp2_with fail
        refine (HT.out _).mono ?_
        rintro _ _ ⟨rfl, rfl⟩
        go_wp2_with fail
        go_ret
        exact ⟨rfl, HX.out⟩
      have hL3 : rightE ⟨th, kd, rg, tk, vl⟩ ↔ (bv = true ∨ vl = 0) := ⟨fun c => (hL2.1 c).2, fun c => hL2.2 ⟨.inr z2, c⟩⟩
      have y2 : ((tk : Int) == 0) = true := by rw [beq_iff_eq]; omega
      clear hL2 z2
      cases bv
      · by_cases z3 : vl = 0
        · obtain rfl : d = true := by rw [← hd]; exact decide_eq_true (hL3.2 (.inr z3))
          have y3 : ((vl : Int) == 0) = true := by rw [beq_iff_eq]; omega
          clear hd hL3 z3
          go_enter Tryz.func13, Tryz.ntmps13
          go_wp2_with fail
          change St noB w (w.alloc (.cells #[.int .i64 th, .int .i64 kd, .int .i64 rg, .int .u64 tk, .int .u64 vl] 36)) [blkT w.heap.size (evA th kd rg tk vl) 36] at h
          generalize w.alloc (.cells #[.int .i64 th, .int .i64 kd, .int .i64 rg, .int .u64 tk, .int .u64 vl] 36) = wr at h ⊢
          generalize w.heap.size = b at h ⊢
          have c0 : _ = some (Value.int .i64 th) := cell_of_heap h.blk 0
          have c1 : _ = some (Value.int .i64 kd) := cell_of_heap h.blk 1
          have c2 : _ = some (Value.int .i64 rg) := cell_of_heap h.blk 2
          have c3 : _ = some (Value.int .u64 ((tk : Nat) : Int)) := cell_of_heap h.blk 3
          have c4 : _ = some (Value.int .u64 ((vl : Nat) : Int)) := cell_of_heap h.blk 4
          have HE := Lib.hid h.ends
          clear h
          go_wp2_with fail
          refine (HM.out _).mono ?_
          rintro _ _ ⟨rfl, rfl⟩
          go_wp2_with fail
          refine (HN.out _).mono ?_
          rintro _ w3 ⟨rfl, x3⟩
          have e0 := Ext.cell x3 c0
          have e2 := Ext.cell x3 c2
          have e3 := Ext.cell x3 c3
          have e4 := Ext.cell x3 c4
          clear c0 c1 c2 c3 c4 HM HN
          have HX := Lib.hid (HE.out.trans x3)
          clear x3
          go_wp2_with fail
          refine (HR.out _).mono ?_
          rintro _ _ ⟨rfl, rfl⟩
          go_wp2_with fail
          refine (HT.out _).mono ?_
          rintro _ _ ⟨rfl, rfl⟩
          go_wp2_with fail
          refine (HV.out _).mono ?_
          rintro _ _ ⟨rfl, rfl⟩
          go_wp2_with fail
          go_ret
          exact ⟨rfl, HX.out⟩
        · obtain rfl : d = false := by rw [← hd]; exact decide_eq_false (fun c => by have := hL3.1 c; rcases this with q | q; cases q; exact z3 q)
          have y3 : ((vl : Int) == 0) = false := by rw [beq_eq_false_iff_ne]; omega
          clear hd hL3 z3
          go_enter Tryz.func13, Tryz.ntmps13
          go_wp2_with fail
          change St noB w (w.alloc (.cells #[.int .i64 th, .int .i64 kd, .int .i64 rg, .int .u64 tk, .int .u64 vl] 36)) [blkT w.heap.size (evA th kd rg tk vl) 36] at h
          generalize w.alloc (.cells #[.int .i64 th, .int .i64 kd, .int .i64 rg, .int .u64 tk, .int .u64 vl] 36) = wr at h ⊢
          generalize w.heap.size = b at h ⊢
          have c0 : _ = some (Value.int .i64 th) := cell_of_heap h.blk 0
          have c1 : _ = some (Value.int .i64 kd) := cell_of_heap h.blk 1
          have c2 : _ = some (Value.int .i64 rg) := cell_of_heap h.blk 2
          have c3 : _ = some (Value.int .u64 ((tk : Nat) : Int)) := cell_of_heap h.blk 3
          have c4 : _ = some (Value.int .u64 ((vl : Nat) : Int)) := cell_of_heap h.blk 4
          have HE := Lib.hid h.ends
          clear h
          go_wp2_with fail
          refine (HM.out _).mono ?_
          rintro _ _ ⟨rfl, rfl⟩
          go_wp2_with fail
          refine (HN.out _).mono ?_
          rintro _ w3 ⟨rfl, x3⟩
          have e0 := Ext.cell x3 c0
          have e2 := Ext.cell x3 c2
          have e3 := Ext.cell x3 c3
          have e4 := Ext.cell x3 c4
          clear c0 c1 c2 c3 c4 HM HN
          have HX := Lib.hid (HE.out.trans x3)
          clear x3
          go_wp2_with fail
          refine (HR.out _).mono ?_
          rintro _ _ ⟨rfl, rfl⟩
          go_wp2_with fail
          refine (HT.out _).mono ?_
          rintro _ _ ⟨rfl, rfl⟩
          go_wp2_with fail
          refine (HV.out _).mono ?_
          rintro _ _ ⟨rfl, rfl⟩
          go_wp2_with fail
          go_ret
          exact ⟨rfl, HX.out⟩
      · obtain rfl : d = true := by rw [← hd]; exact decide_eq_true (hL3.2 (.inl rfl))
        clear hd hL3
        go_enter Tryz.func13, Tryz.ntmps13
        go_wp2_with fail
        change St noB w (w.alloc (.cells #[.int .i64 th, .int .i64 kd, .int .i64 rg, .int .u64 tk, .int .u64 vl] 36)) [blkT w.heap.size (evA th kd rg tk vl) 36] at h
        generalize w.alloc (.cells #[.int .i64 th, .int .i64 kd, .int .i64 rg, .int .u64 tk, .int .u64 vl] 36) = wr at h ⊢
        generalize w.heap.size = b at h ⊢
        have c0 : _ = some (Value.int .i64 th) := cell_of_heap h.blk 0
        have c1 : _ = some (Value.int .i64 kd) := cell_of_heap h.blk 1
        have c2 : _ = some (Value.int .i64 rg) := cell_of_heap h.blk 2
        have c3 : _ = some (Value.int .u64 ((tk : Nat) : Int)) := cell_of_heap h.blk 3
        have c4 : _ = some (Value.int .u64 ((vl : Nat) : Int)) := cell_of_heap h.blk 4
        have HE := Lib.hid h.ends
        clear h
        go_wp2_with fail
        refine (HM.out _).mono ?_
        rintro _ _ ⟨rfl, rfl⟩
        go_wp2_with fail
        refine (HN.out _).mono ?_
        rintro _ w3 ⟨rfl, x3⟩
        have e0 := Ext.cell x3 c0
        have e2 := Ext.cell x3 c2
        have e3 := Ext.cell x3 c3
        have e4 := Ext.cell x3 c4
        clear c0 c1 c2 c3 c4 HM HN
        have HX := Lib.hid (HE.out.trans x3)
        clear x3
        go_wp2_with fail
        refine (HR.out _).mono ?_
        rintro _ _ ⟨rfl, rfl⟩
        go_wp2_with fail
        refine (HT.out _).mono ?_
        rintro _ _ ⟨rfl, rfl⟩
        go_wp2_with fail
        refine (HV.out _).mono ?_
        rintro _ _ ⟨rfl, rfl⟩
        go_wp2_with fail
        go_ret
        exact ⟨rfl, HX.out⟩
    · have hL3 : rightE ⟨th, kd, rg, tk, vl⟩ ↔ (bv = true ∨ vl = 0) := ⟨fun c => (hL2.1 c).2, fun c => hL2.2 ⟨.inl rfl, c⟩⟩
      clear hL2
      cases bv
      · by_cases z3 : vl = 0
        · obtain rfl : d = true := by rw [← hd]; exact decide_eq_true (hL3.2 (.inr z3))
          have y3 : ((vl : Int) == 0) = true := by rw [beq_iff_eq]; omega
          clear hd hL3 z3
          go_enter Tryz.func13, Tryz.ntmps13
          go_wp2_with fail
          change St noB w (w.alloc (.cells #[.int .i64 th, .int .i64 kd, .int .i64 rg, .int .u64 tk, .int .u64 vl] 36)) [blkT w.heap.size (evA th kd rg tk vl) 36] at h
          generalize w.alloc (.cells #[.int .i64 th, .int .i64 kd, .int .i64 rg, .int .u64 tk, .int .u64 vl] 36) = wr at h ⊢
          generalize w.heap.size = b at h ⊢
          have c0 : _ = some (Value.int .i64 th) := cell_of_heap h.blk 0
          have c1 : _ = some (Value.int .i64 kd) := cell_of_heap h.blk 1
          have c2 : _ = some (Value.int .i64 rg) := cell_of_heap h.blk 2
          have c3 : _ = some (Value.int .u64 ((tk : Nat) : Int)) := cell_of_heap h.blk 3
          have c4 : _ = some (Value.int .u64 ((vl : Nat) : Int)) := cell_of_heap h.blk 4
          have HE := Lib.hid h.ends
          clear h
          go_wp2_with fail
          refine (HM.out _).mono ?_
          rintro _ _ ⟨rfl, rfl⟩
          go_wp2_with fail
          refine (HN.out _).mono ?_
          rintro _ w3 ⟨rfl, x3⟩
          have e0 := Ext.cell x3 c0
          have e2 := Ext.cell x3 c2
          have e3 := Ext.cell x3 c3
          have e4 := Ext.cell x3 c4
          clear c0 c1 c2 c3 c4 HM HN
          have HX := Lib.hid (HE.out.trans x3)
          clear x3
          go_wp2_with fail
          refine (HR.out _).mono ?_
          rintro _ _ ⟨rfl, rfl⟩
          go_wp2_with fail
          refine (HT.out _).mono ?_
          rintro _ _ ⟨rfl, rfl⟩
          go_wp2_with fail
          refine (HV.out _).mono ?_
          rintro _ _ ⟨rfl, rfl⟩
          go_wp2_with fail
          go_ret
          exact ⟨rfl, HX.out⟩
        · obtain rfl : d = false := by rw [← hd]; exact decide_eq_false (fun c => by have := hL3.1 c; rcases this with q | q; cases q; exact z3 q)
          have y3 : ((vl : Int) == 0) = false := by rw [beq_eq_false_iff_ne]; omega
          clear hd hL3 z3
          go_enter Tryz.func13, Tryz.ntmps13
          go_wp2_with fail
          change St noB w (w.alloc (.cells #[.int .i64 th, .int .i64 kd, .int .i64 rg, .int .u64 tk, .int .u64 vl] 36)) [blkT w.heap.size (evA th kd rg tk vl) 36] at h
          generalize w.alloc (.cells #[.int .i64 th, .int .i64 kd, .int .i64 rg, .int .u64 tk, .int .u64 vl] 36) = wr at h ⊢
          generalize w.heap.size = b at h ⊢
          have c0 : _ = some (Value.int .i64 th) := cell_of_heap h.blk 0
          have c1 : _ = some (Value.int .i64 kd) := cell_of_heap h.blk 1
          have c2 : _ = some (Value.int .i64 rg) := cell_of_heap h.blk 2
          have c3 : _ = some (Value.int .u64 ((tk : Nat) : Int)) := cell_of_heap h.blk 3
          have c4 : _ = some (Value.int .u64 ((vl : Nat) : Int)) := cell_of_heap h.blk 4
          have HE := Lib.hid h.ends
          clear h
          go_wp2_with fail
          refine (HM.out _).mono ?_
          rintro _ _ ⟨rfl, rfl⟩
          go_wp2_with fail
          refine (HN.out _).mono ?_
          rintro _ w3 ⟨rfl, x3⟩
          have e0 := Ext.cell x3 c0
          have e2 := Ext.cell x3 c2
          have e3 := Ext.cell x3 c3
          have e4 := Ext.cell x3 c4
          clear c0 c1 c2 c3 c4 HM HN
          have HX := Lib.hid (HE.out.trans x3)
          clear x3
          go_wp2_with fail
          refine (HR.out _).mono ?_
          rintro _ _ ⟨rfl, rfl⟩
          go_wp2_with fail
          refine (HT.out _).mono ?_
          rintro _ _ ⟨rfl, rfl⟩
          go_wp2_with fail
          refine (HV.out _).mono ?_
          rintro _ _ ⟨rfl, rfl⟩
          go_wp2_with fail
          go_ret
          exact ⟨rfl, HX.out⟩
      · obtain rfl : d = true := by rw [← hd]; exact decide_eq_true (hL3.2 (.inl rfl))
        clear hd hL3
        go_enter Tryz.func13, Tryz.ntmps13
        go_wp2_with fail
        change St noB w (w.alloc (.cells #[.int .i64 th, .int .i64 kd, .int .i64 rg, .int .u64 tk, .int .u64 vl] 36)) [blkT w.heap.size (evA th kd rg tk vl) 36] at h
        generalize w.alloc (.cells #[.int .i64 th, .int .i64 kd, .int .i64 rg, .int .u64 tk, .int .u64 vl] 36) = wr at h ⊢
        generalize w.heap.size = b at h ⊢
        have c0 : _ = some (Value.int .i64 th) := cell_of_heap h.blk 0
        have c1 : _ = some (Value.int .i64 kd) := cell_of_heap h.blk 1
        have c2 : _ = some (Value.int .i64 rg) := cell_of_heap h.blk 2
        have c3 : _ = some (Value.int .u64 ((tk : Nat) : Int)) := cell_of_heap h.blk 3
        have c4 : _ = some (Value.int .u64 ((vl : Nat) : Int)) := cell_of_heap h.blk 4
        have HE := Lib.hid h.ends
        clear h
        go_wp2_with fail
        refine (HM.out _).mono ?_
        rintro _ _ ⟨rfl, rfl⟩
        go_wp2_with fail
        refine (HN.out _).mono ?_
        rintro _ w3 ⟨rfl, x3⟩
        have e0 := Ext.cell x3 c0
        have e2 := Ext.cell x3 c2
        have e3 := Ext.cell x3 c3
        have e4 := Ext.cell x3 c4
        clear c0 c1 c2 c3 c4 HM HN
        have HX := Lib.hid (HE.out.trans x3)
        clear x3
        go_wp2_with fail
        refine (HR.out _).mono ?_
        rintro _ _ ⟨rfl, rfl⟩
        go_wp2_with fail
        refine (HT.out _).mono ?_
        rintro _ _ ⟨rfl, rfl⟩
        go_wp2_with fail
        refine (HV.out _).mono ?_
        rintro _ _ ⟨rfl, rfl⟩
        go_wp2_with fail
        go_ret
        exact ⟨rfl, HX.out⟩
end Go.Proofs.YtjdglpngcdcneaaGreat
