/- Layer 9: CodeBack. -/
import Derived.Test.YtklkboibpglhjaaGe
import Derived.Test.YtklkboibpglhjaaCLaw2
namespace Go.Proofs.Ytklkboibpglhjaa
open Go.RowKit Go.WideShapes
set_option linter.unusedVariables false
set_option linter.unusedSimpArgs false
set_option maxRecDepth 20000 in
set_option maxHeartbeats 8000000 in
theorem codeBack_walk (v : Value) (p : Prg) (v2 : Value) (q : Prg) (w : World) (hp : PArg w v p) (hq : PArg w v2 q) :
    Calls Try.prog 6 #[v, v2] w fun e w' => e = .returned (.bool true) ∧ Ext w w' := by
  have HP := Lib.hid hp
  have HQ := Lib.hid hq
  obtain ⟨A, B, ca, cb, rfl, _⟩ := hp.arg
  obtain ⟨A2, B2, ca2, cb2, rfl, _⟩ := hq.arg
  generalize hn : p.rings.length = n at *
  generalize hm : p.ths.length = m at *
  generalize hn2 : q.rings.length = n2 at *
  generalize hm2 : q.ths.length = m2 at *
  have P := HP.out
  have Q := HQ.out
  clear hn hm hn2 hm2 hp hq HP HQ
  have h1 := ((St.start noB w).alloc #[Value.slice A n ca, Value.slice B m cb] 35).alloc #[Value.slice A2 n2 ca2, Value.slice B2 m2 cb2] 35
  rw [← alloc_size] at h1
  have FP := Lib.hid (fun w' (x : Ext w w') => few_p _ p 100 (by omega) w' (P.ext x))
  have FQ := Lib.hid (fun w' (x : Ext w w') => few_p _ q 100 (by omega) w' (Q.ext x))
  have WP := Lib.hid (fun w' (x : Ext w w') => rwritten_p _ p w' (P.ext x))
  have WQ := Lib.hid (fun w' (x : Ext w w') => rwritten_p _ q w' (Q.ext x))
  have HP := Lib.hid P
  have HQ := Lib.hid Q
  clear P Q
  go_enter Try.func6, Try.ntmps6
  go_wp2_with fail
  refine (cawake_any _).mono ?_
  rintro e w1 ⟨rfl, x1⟩
  have h := h1.ext x1
  clear h1 x1
  generalize w.heap.size + 1 = qb at h ⊢
  generalize w.heap.size = pb at h ⊢
  have p0 := cell_of_heap h.swap.blk 0
  have p1 := cell_of_heap h.swap.blk 1
  have q0 := cell_of_heap h.blk 0
  have q1 := cell_of_heap h.blk 1
  change w1.cell? _ = some (Value.slice A n ca) at p0
  change w1.cell? _ = some (Value.slice B m cb) at p1
  change w1.cell? _ = some (Value.slice A2 n2 ca2) at q0
  change w1.cell? _ = some (Value.slice B2 m2 cb2) at q1
  cases hfp : fewB p 100 with
  | false =>
    rw [hfp] at FP
    clear hfp
    go_wp2_with fail
    refine (FP.out w1 h.ends).mono ?_
    rintro e w2 ⟨rfl, x2⟩
    replace h := h.ext x2
    clear p0 p1 q0 q1
    go_wp2_with fail
    refine (cawake_any _).mono ?_
    rintro e wz ⟨rfl, xz⟩
    go_wp2_with fail
    go_ret
    exact ⟨rfl, h.ends.trans xz⟩
  | true =>
    rw [hfp] at FP
    clear hfp
    go_wp2_with fail
    refine (FP.out w1 h.ends).mono ?_
    rintro e w2 ⟨rfl, x2⟩
    replace h := h.ext x2
    clear p0 p1 q0 q1
    have p0 := cell_of_heap h.swap.blk 0
    have p1 := cell_of_heap h.swap.blk 1
    have q0 := cell_of_heap h.blk 0
    have q1 := cell_of_heap h.blk 1
    change w2.cell? _ = some (Value.slice A n ca) at p0
    change w2.cell? _ = some (Value.slice B m cb) at p1
    change w2.cell? _ = some (Value.slice A2 n2 ca2) at q0
    change w2.cell? _ = some (Value.slice B2 m2 cb2) at q1
    cases hfq : fewB q 100 with
    | false =>
      rw [hfq] at FQ
      clear hfq
      go_wp2_with fail
      refine (FQ.out w2 h.ends).mono ?_
      rintro e w3 ⟨rfl, x3⟩
      replace h := h.ext x3
      clear p0 p1 q0 q1
      go_wp2_with fail
      refine (cawake_any _).mono ?_
      rintro e wz ⟨rfl, xz⟩
      go_wp2_with fail
      go_ret
      exact ⟨rfl, h.ends.trans xz⟩
    | true =>
      rw [hfq] at FQ
      clear hfq
      go_wp2_with fail
      refine (FQ.out w2 h.ends).mono ?_
      rintro e w3 ⟨rfl, x3⟩
      replace h := h.ext x3
      clear p0 p1 q0 q1
      have p0 := cell_of_heap h.swap.blk 0
      have p1 := cell_of_heap h.swap.blk 1
      have q0 := cell_of_heap h.blk 0
      have q1 := cell_of_heap h.blk 1
      change w3.cell? _ = some (Value.slice A n ca) at p0
      change w3.cell? _ = some (Value.slice B m cb) at p1
      change w3.cell? _ = some (Value.slice A2 n2 ca2) at q0
      change w3.cell? _ = some (Value.slice B2 m2 cb2) at q1
      cases hwp : writtenB p with
      | false =>
        rw [hwp] at WP
        clear hwp
        go_wp2_with fail
        refine (WP.out w3 h.ends).mono ?_
        rintro e w4 ⟨rfl, x4⟩
        replace h := h.ext x4
        clear p0 p1 q0 q1
        go_wp2_with fail
        refine (cawake_any _).mono ?_
        rintro e wz ⟨rfl, xz⟩
        go_wp2_with fail
        go_ret
        exact ⟨rfl, h.ends.trans xz⟩
      | true =>
        have HWP := Lib.hid hwp
        rw [hwp] at WP
        clear hwp
        go_wp2_with fail
        refine (WP.out w3 h.ends).mono ?_
        rintro e w4 ⟨rfl, x4⟩
        replace h := h.ext x4
        clear p0 p1 q0 q1
        have p0 := cell_of_heap h.swap.blk 0
        have p1 := cell_of_heap h.swap.blk 1
        have q0 := cell_of_heap h.blk 0
        have q1 := cell_of_heap h.blk 1
        change w4.cell? _ = some (Value.slice A n ca) at p0
        change w4.cell? _ = some (Value.slice B m cb) at p1
        change w4.cell? _ = some (Value.slice A2 n2 ca2) at q0
        change w4.cell? _ = some (Value.slice B2 m2 cb2) at q1
        cases hwq : writtenB q with
        | false =>
          rw [hwq] at WQ
          clear hwq
          go_wp2_with fail
          refine (WQ.out w4 h.ends).mono ?_
          rintro e w5 ⟨rfl, x5⟩
          replace h := h.ext x5
          clear p0 p1 q0 q1
          go_wp2_with fail
          refine (cawake_any _).mono ?_
          rintro e wz ⟨rfl, xz⟩
          go_wp2_with fail
          go_ret
          exact ⟨rfl, h.ends.trans xz⟩
        | true =>
          have HWQ := Lib.hid hwq
          rw [hwq] at WQ
          clear hwq
          go_wp2_with fail
          refine (WQ.out w4 h.ends).mono ?_
          rintro e w5 ⟨rfl, x5⟩
          replace h := h.ext x5
          clear p0 p1 q0 q1
          have r1 := h.swap.blk
          have PP := Lib.hid (fun w' (x : Ext w w') => cprint_p _ p w' (HP.out.ext x))
          have PQ := Lib.hid (fun w' (x : Ext w w') => cprint_p _ q w' (HQ.out.ext x))
          rw [HWP.out, if_pos rfl, if_pos rfl] at PP
          rw [HWQ.out, if_pos rfl, if_pos rfl] at PQ
          go_wp2_with (refine wpList_load_row rfl _ _ rfl pb rfl 35 #[Value.slice A n ca, Value.slice B m cb] (0, 0) _ r1 Try.underlying35 rfl (by kernel_rfl) ?_)
          refine (PP.out w5 h.ends).mono ?_
          rintro e w6 ⟨rfl, x6⟩
          replace h := h.ext x6
          clear r1
          have r1 := h.blk
          go_wp2_with (refine wpList_load_row rfl _ _ rfl qb rfl 35 #[Value.slice A2 n2 ca2, Value.slice B2 m2 cb2] (0, 0) _ r1 Try.underlying35 rfl (by kernel_rfl) ?_)
          refine (PQ.out w6 h.ends).mono ?_
          rintro e w7 ⟨rfl, x7⟩
          replace h := h.ext x7
          clear r1
          have hle := prB_le p HWP.out HP.out.ok
          go_wp2_with fail
          refine (cread_p ⟨(prB p).toArray⟩ (by rw [bsize]; omega) w7).mono ?_
          rintro e w8 ⟨⟨v8, rfl, a8⟩, x8⟩
          have hra : rdAll (⟨(prB p).toArray⟩ : ByteArray).data.toList = some p := rdAll_prB p HWP.out HP.out.ok
          rw [hra] at a8 ⊢
          rw [show (if (some p).isSome = true then (0 : Int) else 3) = 0 from rfl]
          change PArg w8 v8 p at a8
          replace h := h.ext x8
          obtain ⟨A3, B3, ca3, cb3, rfl, _⟩ := a8.arg
          generalize hn3 : p.rings.length = n3 at *
          generalize hm3 : p.ths.length = m3 at *
          clear hn3 hm3 PP PQ WP WQ FP FQ hra hle
          have h9 := h.alloc #[Value.slice A3 n3 ca3, Value.slice B3 m3 cb3] 35
          have a9 := a8.ext ((Mut.refl noB w8).alloc (.cells #[Value.slice A3 n3 ca3, Value.slice B3 m3 cb3] 35))
          have y9 := h9.ends
          have p0 := cell_of_heap (h9.pull 2).blk 0
          have p1 := cell_of_heap (h9.pull 2).blk 1
          have q0 := cell_of_heap (h9.pull 1).blk 0
          have q1 := cell_of_heap (h9.pull 1).blk 1
          have z0 := cell_of_heap h9.blk 0
          have z1 := cell_of_heap h9.blk 1
          change World.cell? _ _ = some (Value.slice A n ca) at p0
          change World.cell? _ _ = some (Value.slice B m cb) at p1
          change World.cell? _ _ = some (Value.slice A2 n2 ca2) at q0
          change World.cell? _ _ = some (Value.slice B2 m2 cb2) at q1
          change World.cell? _ _ = some (Value.slice A3 n3 ca3) at z0
          change World.cell? _ _ = some (Value.slice B3 m3 cb3) at z1
          go_wp2_with fail
          refine (same_any _ _ p p _ a9 (HP.out.ext y9)).mono ?_
          rintro e w10 ⟨rfl, x10⟩
          rw [decide_eq_true (rfl : p = p)]
          have h10 := h9.ext x10
          clear p0 p1 q0 q1 z0 z1
          have p0 := cell_of_heap (h10.pull 2).blk 0
          have p1 := cell_of_heap (h10.pull 2).blk 1
          have q0 := cell_of_heap (h10.pull 1).blk 0
          have q1 := cell_of_heap (h10.pull 1).blk 1
          change World.cell? _ _ = some (Value.slice A n ca) at p0
          change World.cell? _ _ = some (Value.slice B m cb) at p1
          change World.cell? _ _ = some (Value.slice A2 n2 ca2) at q0
          change World.cell? _ _ = some (Value.slice B2 m2 cb2) at q1
          have y10 := h10.ends
          have SA := Lib.hid (same_any _ _ p q w10 (HP.out.ext y10) (HQ.out.ext y10))
          clear h h9 h10 a8 a9 y9 x10
          have hbe : ((⟨(prB p).toArray⟩ : ByteArray).toList == (⟨(prB q).toArray⟩ : ByteArray).toList) = decide (p = q) := by
            rw [ByteArray.toList_eq, ByteArray.toList_eq]
            by_cases e : p = q
            · rw [e, decide_eq_true rfl]; exact beq_self_eq_true _
            · rw [decide_eq_false e, beq_eq_false_iff_ne]
              exact fun e2 => e (prB_inj p q HWP.out HWQ.out HP.out.ok HQ.out.ok e2)
          generalize (⟨(prB p).toArray⟩ : ByteArray) = s at hbe ⊢
          generalize (⟨(prB q).toArray⟩ : ByteArray) = s2 at hbe ⊢
          generalize decide (p = q) = r at hbe SA
          clear HP HQ HWP HWQ
          go_wp2_with fail
          refine SA.out.mono ?_
          rintro e w11 ⟨rfl, x11⟩
          go_wp2_with fail
          go_ret
          exact ⟨by cases r <;> rfl, y10.trans x11⟩
end Go.Proofs.Ytklkboibpglhjaa
