/- Layer 21: answers that the document fixes: awake. -/
import Derived.Test.YtjdglpngcdcneaaGreatEAwk
namespace Go.Proofs.YtjdglpngcdcneaaGreat
open Go.RowKit Go.WideShapes
set_option linter.unusedVariables false
set_option linter.unusedSimpArgs false
set_option linter.unusedSectionVars false
set_option maxRecDepth 20000 in
set_option maxHeartbeats 8000000 in
theorem awake_any (w : World) : Calls Tryz.prog 6 #[] w fun e w' => e = .returned (.bool true) ∧ Ext w w' := by
  have hok : checkE haltsE = (0, 0) := by decide
  have hv : ∀ i, i < haltsE.length → (haltsE.getD i default).vl < 18446744073709551616 := by decide
  have hbad : checkE [zeroEv] = (0, 3) := by decide
  have hlen : (printE haltsE).length ≤ 520000 := by
    have := packP_len (streamsP haltsE) (by rw [streams_halts]; decide)
    rw [streams_halts] at this
    unfold printE
    rw [streams_halts]
    simp only [List.length_cons, List.length_nil] at this
    omega
  have HH := Lib.hid halts_any
  have HST := Lib.hid (fun w A ca (r : ERow w A haltsE) => strs_ok A ca 2 haltsE w rfl r hok hv)
  have HPR := Lib.hid (fun w A ca (r : ERow w A haltsE) => print_ok A ca 2 haltsE w rfl r hok hv)
  have hb2 := rdE_back haltsE hok hv 2 (by decide) (by omega)
  have hb1 := rdE_long haltsE hok hv 1 (by decide)
  have hbn := rdE_neg (printE haltsE) (-1) (by omega)
  obtain ⟨ps, hps⟩ : ∃ ps : ByteArray, ps = ⟨(printE haltsE).toArray⟩ := ⟨_, rfl⟩
  have hpl : ps.data.toList = printE haltsE := by rw [hps]
  have hpz : ps.size ≤ 520000 := by rw [hps, bytes_size]; exact hlen
  rw [← hps] at HPR
  rw [← hpl] at hb2 hb1 hbn
  have HR2 := Lib.hid (fun w => read_ok ps hpz 2 (by omega) w haltsE 2 hb2 rfl)
  have HR1 := Lib.hid (fun w => read_no ps hpz 1 (by omega) w 3 hb1 (by omega))
  have HRN := Lib.hid (fun w => read_no ps hpz (-1) (by omega) w 1 hbn (by omega))
  have HBS := Lib.hid (fun w A ca (r : ERow w A [zeroEv]) => strs_bad A ca 1 [zeroEv] w rfl (by omega) r (by rw [hbad]; decide))
  have HBP := Lib.hid (fun w A ca (r : ERow w A [zeroEv]) => print_bad A ca 1 [zeroEv] w rfl (by omega) r (by rw [hbad]; decide))
  rw [hbad] at HBS HBP
  obtain ⟨ss, hss⟩ : ∃ ss : ByteArray, ss = ⟨(streamsP haltsE).toArray⟩ := ⟨_, rfl⟩
  rw [← hss] at HST
  have hcmp : (ss.toList == [1, 0, 1, 1, 14, 1, 0, 0, 0]) = true := by
    rw [hss, ByteArray.toList_eq, streams_halts]; rfl
  clear hok hv hbad hlen hb2 hb1 hbn hps hpl hpz hss
  go_enter Tryz.func6, Tryz.ntmps6
  go_wp2_with fail
  refine (HH.out _).mono ?_
  rintro _ w1 ⟨g1, rfl, x1, r1⟩
  go_wp2_with fail
  refine (HST.out w1 _ _ r1).mono ?_
  rintro _ w2 ⟨rfl, x2⟩
  have x := Lib.hid (x1.trans x2)
  clear x1 x2 r1
  go_wp2_with fail
  refine (HH.out _).mono ?_
  rintro _ w3 ⟨g3, rfl, x3, r3⟩
  go_wp2_with fail
  refine (HPR.out w3 _ _ r3).mono ?_
  rintro _ w4 ⟨rfl, x4⟩
  replace x := Lib.hid (x.out.trans (x3.trans x4))
  clear x3 x4 r3
  go_wp2_with fail
  refine (HR2.out w4).mono ?_
  rintro _ w5 ⟨x0, rfl, h5⟩
  have r5 := Own.erow h5.own (by rfl)
  replace x := Lib.hid (x.out.trans h5.ends)
  clear h5
  go_wp2_with fail
  refine (HR1.out w5).mono ?_
  rintro _ w6 ⟨rfl, x6⟩
  go_wp2_with fail
  refine (HRN.out w6).mono ?_
  rintro _ w7 ⟨rfl, x7⟩
  replace x := Lib.hid (x.out.trans (x6.trans x7))
  replace r5 := Lib.hid (r5.ext (x6.trans x7))
  clear x6 x7
  have h7 := (St.start noB w7).alloc (evsV [zeroEv]).toArray 36
  have r7 := erow_blk [zeroEv] h7.blk rfl
  have x7 := h7.ends
  change ERow (w7.alloc (.cells #[.int .i64 0, .int .i64 0, .int .i64 0, .int .u64 0, .int .u64 0] 36)) _ _ at r7
  change Ext w7 (w7.alloc (.cells #[.int .i64 0, .int .i64 0, .int .i64 0, .int .u64 0, .int .u64 0] 36)) at x7
  have R7 := Lib.hid r7
  clear h7 r7
  go_wp2_with fail
  refine (HBP.out _ _ _ R7.out).mono ?_
  rintro _ w8 ⟨rfl, x8⟩
  replace x := Lib.hid (x.out.trans (x7.trans x8))
  replace r5 := Lib.hid (r5.out.ext (x7.trans x8))
  clear x7 x8 R7
  have h7 := (St.start noB w8).alloc (evsV [zeroEv]).toArray 36
  have r7 := erow_blk [zeroEv] h7.blk rfl
  have x7 := h7.ends
  change ERow (w8.alloc (.cells #[.int .i64 0, .int .i64 0, .int .i64 0, .int .u64 0, .int .u64 0] 36)) _ _ at r7
  change Ext w8 (w8.alloc (.cells #[.int .i64 0, .int .i64 0, .int .i64 0, .int .u64 0, .int .u64 0] 36)) at x7
  have R7 := Lib.hid r7
  clear h7 r7
  go_wp2_with fail
  refine (HBS.out _ _ _ R7.out).mono ?_
  rintro _ w9 ⟨rfl, x9⟩
  replace x := Lib.hid (x.out.trans (x7.trans x9))
  replace r5 := Lib.hid (r5.out.ext (x7.trans x9))
  clear x7 x9 R7
  go_wp2_with fail
  refine (HH.out _).mono ?_
  rintro _ w10 ⟨g10, rfl, x10, r10⟩
  have HSM := Lib.hid (rsame_any (some ⟨x0, 0, none⟩) (some ⟨g10, 0, none⟩) 2 2 2 2 haltsE haltsE w10 rfl rfl (by omega) (r5.out.ext x10) r10)
  rw [decide_eq_true rfl] at HSM
  go_wp2_with fail
  refine HSM.out.mono ?_
  rintro _ w11 ⟨rfl, x11⟩
  go_wp2_with fail
  go_ret
  exact ⟨rfl, x.out.trans (x10.trans x11)⟩
end Go.Proofs.YtjdglpngcdcneaaGreat
