/- BitsReads: the walk. -/
import Derived.Test.YthbnokaclolknaaBitE
namespace Go.Proofs.Ythbnokaclolknaa
open Go.RowKit
set_option linter.unusedVariables false
set_option linter.unusedSimpArgs false

set_option maxRecDepth 20000 in
set_option maxHeartbeats 4000000 in
theorem bitsReads_walk (s : ByteArray) (A : Option Addr) (ca : Nat) (cs : List Int) (hps : s.size ≤ 140737488351232) (w : World) (ra : ArgRow (repI .i64 (-9223372036854775808) 9223372036854775808) 1 w A cs.length cs) (hpa : cs.length ≤ 9223372036854775807) :
    Calls Try.prog 4 #[.string s, .slice A cs.length ca] w fun e w' => e = .returned (.bool true) ∧ Ext w w' := by
  obtain ⟨m, hm⟩ : ∃ m, m = cs.length := ⟨_, rfl⟩
  rw [← hm] at ra hpa ⊢
  have HM := Lib.hid hm
  clear hm
  by_cases h0 : s.size ≤ 200
  · by_cases h1 : m ≤ 100
    · go_enter Try.func4, Try.ntmps4
      go_wp2_with (first
          | (go_at_call 8; refine (bawake_any _).mono ?_; rintro e w1 ⟨rfl, x1⟩; have h := (St.start noB w).ext x1)
          | (go_at_call 14; refine (bnew_st h s).mono ?_; rintro e w6 ⟨rfl, h6, z6⟩; clear h)
          | (go_at_call 15; refine (rall_st h6 s (by omega)).mono ?_; rintro e w7 ⟨v, rfl, h7⟩; clear h6))
      obtain ⟨r, hr⟩ : ∃ r, r = w1.heap.size := ⟨_, rfl⟩
      rw [← hr] at h7 ⊢
      clear hr
      have hN0 := allB_len s.data.toList
      have hss : s.data.toList.length = s.size := by simp
      obtain ⟨N, hN⟩ : ∃ N, N = 8 * s.size := ⟨_, rfl⟩
      have HS8 := Lib.hid hN
      have hN1 : (allB s.data.toList).length = N := by omega
      have HN := Lib.hid hN1
      have hNb : N ≤ 1600 := by omega
      obtain ⟨A4, c4, hf⟩ := h7.own.form
      rw [hN1] at hf
      subst hf
      have h8 := h7.swap
      clear h7 hN0 hN hN1
      go_loopw [7, 34] (fun va vi wr => ∃ i a : Nat, i ≤ m ∧ va = .int .i64 a ∧ vi = .int .i64 i ∧ a ≤ N ∧ St noB w wr [brT r s a, blT (.slice A4 N c4) (allB s.data.toList)]) (fun _ vi _ => m - (intOf vi).toNat)
      case atStart => exact ⟨0, 0, by omega, rfl, rfl, by omega, h8⟩
      case round =>
        clear h8
        obtain ⟨i, a, hi, rfl, rfl, ha, h⟩ := hrel
        by_cases hlt : i < m
        · obtain ⟨b, off, rfl, hc0, hc1, hc2⟩ := (ra.ext h.ends).getI i hlt
          generalize cs.getD i 0 = c at hc0 hc1 hc2
          by_cases hr : c < 0 ∨ 64 < c
          · have HT := Lib.hid (fun w => btake_arg (b := r) c hr w)
            obtain ⟨A5, D, c5, HD, hA5, hB5⟩ := rest_facts h HN.out ha
            rcases hr with hr | hr
            · go_wp2_with (go_at_call 16; refine (HT.out _).mono ?_; rintro e w2 ⟨rfl, rfl⟩)
              clear hA5
              obtain ⟨hDn, hDB⟩ : D = N - a ∧ (D : Int) = (N : Int) - a := by have := HD.out; omega
              have HDN := Lib.hid hDn
              have HDB := Lib.hid hDB
              have hDle : D ≤ 1600 := by omega
              clear hDn hDB
              have HDone := Lib.hid (bdone_st h (by have := HS8.out; omega) (by omega))
              have HAt := Lib.hid (bat_st h)
              go_loop [12, 95] (fun v12 vj => ∃ j : Nat, j ≤ D ∧ v12 = .bool (noneTo (allB s.data.toList) a j) ∧ vj = .int .i64 j) (fun _ vj => D - (intOf vj).toNat)
              case atStart => exact ⟨0, by omega, by rw [noneTo, HN.out, ← HDB.out]; congr 1; simp only [decide_eq_decide]; have := HDN.out; omega, rfl⟩
              case round =>
                obtain ⟨j, hj, rfl, rfl⟩ := hrel
                by_cases hlj : j < D
                · obtain ⟨b5, o5, rfl, hc5⟩ := hB5 j hlj
                  have HE := Lib.hid (show noneTo (allB s.data.toList) a (j + 1) = (noneTo (allB s.data.toList) a j && !gd (allB s.data.toList) (a + j)) from rfl)
                  obtain ⟨q1, hq1⟩ : ∃ q1, q1 = noneTo (allB s.data.toList) a (j + 1) := ⟨_, rfl⟩
                  have HQ := Lib.hid hq1
                  rw [← hq1] at HE
                  clear hq1
                  generalize noneTo (allB s.data.toList) a j = q at HE ⊢
                  generalize gd (allB s.data.toList) (a + j) = bit at hc5 HE
                  cases q
                  · go_wp2_with fail
                    go_round
                    case rel => exact ⟨j + 1, by omega, by rw [← HQ.out, HE.out]; rfl, by go_num⟩
                    case measure => simp [intOf]; omega
                  · go_wp2_with fail
                    go_round
                    case rel => exact ⟨j + 1, by omega, by rw [← HQ.out, HE.out]; rfl, by go_num⟩
                    case measure => simp [intOf]; omega
                · obtain rfl : j = D := by omega
                  have HE := Lib.hid (noneTo_rest s.data.toList a (by have := HS8.out; simp; omega))
                  rw [show 8 * s.data.toList.length - a = j by have := HS8.out; have := HDN.out; simp; omega] at HE
                  generalize noneTo (allB s.data.toList) a j = q at HE ⊢
                  cases q
                  · go_wp2_with (first
                      | (go_at_call 19; refine HDone.out.mono ?_; rintro e w8 ⟨r0, rfl, hr0, h8⟩; obtain rfl : r0 = 3 := (hr0.resolve_left (fun hh => Bool.noConfusion (HE.out.2 hh.2))).1; clear hr0 HDone; have HDone2 := Lib.hid (bdone_st h8 (by have := HS8.out; omega) (by omega)))
                      | (go_at_call 19; refine HDone2.out.mono ?_; rintro e w9 ⟨r0, rfl, hr0, h9⟩; obtain rfl : r0 = 3 := (hr0.resolve_left (fun hh => Bool.noConfusion (HE.out.2 hh.2))).1; clear hr0)
                      | (go_at_call 18; refine HAt.out.mono ?_; rintro e w9 ⟨rfl, rfl⟩))
                    clear HDone2 HAt h8
                    go_roundw
                    case rel => first | exact ⟨i + 1, a, by omega, rfl, by go_num, by omega, h9⟩ | ((repeat apply Exists.intro); exact ⟨⟨i + 1, a, by omega, rfl, by go_num, by omega, h9⟩, rfl⟩)
                    case measure => simp [intOf]; omega
                  · go_wp2_with (first
                      | (go_at_call 19; refine HDone.out.mono ?_; rintro e w8 ⟨r0, rfl, hr0, h9⟩; obtain rfl : r0 = 0 := (hr0.resolve_right (fun hh => hh.2 (HE.out.1 (by simp)))).1; clear hr0 HDone)
                      | (go_at_call 18; refine HAt.out.mono ?_; rintro e w9 ⟨rfl, rfl⟩))
                    clear HAt
                    go_roundw
                    case rel => first | exact ⟨i + 1, a, by omega, rfl, by go_num, by omega, h9⟩ | ((repeat apply Exists.intro); exact ⟨⟨i + 1, a, by omega, rfl, by go_num, by omega, h9⟩, rfl⟩)
                    case measure => simp [intOf]; omega
            · have hr1 : ¬ c < 0 := by omega
              go_wp2_with (go_at_call 16; refine (HT.out _).mono ?_; rintro e w2 ⟨rfl, rfl⟩)
              clear hA5
              obtain ⟨hDn, hDB⟩ : D = N - a ∧ (D : Int) = (N : Int) - a := by have := HD.out; omega
              have HDN := Lib.hid hDn
              have HDB := Lib.hid hDB
              have hDle : D ≤ 1600 := by omega
              clear hDn hDB
              have HDone := Lib.hid (bdone_st h (by have := HS8.out; omega) (by omega))
              have HAt := Lib.hid (bat_st h)
              go_loop [12, 95] (fun v12 vj => ∃ j : Nat, j ≤ D ∧ v12 = .bool (noneTo (allB s.data.toList) a j) ∧ vj = .int .i64 j) (fun _ vj => D - (intOf vj).toNat)
              case atStart => exact ⟨0, by omega, by rw [noneTo, HN.out, ← HDB.out]; congr 1; simp only [decide_eq_decide]; have := HDN.out; omega, rfl⟩
              case round =>
                obtain ⟨j, hj, rfl, rfl⟩ := hrel
                by_cases hlj : j < D
                · obtain ⟨b5, o5, rfl, hc5⟩ := hB5 j hlj
                  have HE := Lib.hid (show noneTo (allB s.data.toList) a (j + 1) = (noneTo (allB s.data.toList) a j && !gd (allB s.data.toList) (a + j)) from rfl)
                  obtain ⟨q1, hq1⟩ : ∃ q1, q1 = noneTo (allB s.data.toList) a (j + 1) := ⟨_, rfl⟩
                  have HQ := Lib.hid hq1
                  rw [← hq1] at HE
                  clear hq1
                  generalize noneTo (allB s.data.toList) a j = q at HE ⊢
                  generalize gd (allB s.data.toList) (a + j) = bit at hc5 HE
                  cases q
                  · go_wp2_with fail
                    go_round
                    case rel => exact ⟨j + 1, by omega, by rw [← HQ.out, HE.out]; rfl, by go_num⟩
                    case measure => simp [intOf]; omega
                  · go_wp2_with fail
                    go_round
                    case rel => exact ⟨j + 1, by omega, by rw [← HQ.out, HE.out]; rfl, by go_num⟩
                    case measure => simp [intOf]; omega
                · obtain rfl : j = D := by omega
                  have HE := Lib.hid (noneTo_rest s.data.toList a (by have := HS8.out; simp; omega))
                  rw [show 8 * s.data.toList.length - a = j by have := HS8.out; have := HDN.out; simp; omega] at HE
                  generalize noneTo (allB s.data.toList) a j = q at HE ⊢
                  cases q
                  · go_wp2_with (first
                      | (go_at_call 19; refine HDone.out.mono ?_; rintro e w8 ⟨r0, rfl, hr0, h8⟩; obtain rfl : r0 = 3 := (hr0.resolve_left (fun hh => Bool.noConfusion (HE.out.2 hh.2))).1; clear hr0 HDone; have HDone2 := Lib.hid (bdone_st h8 (by have := HS8.out; omega) (by omega)))
                      | (go_at_call 19; refine HDone2.out.mono ?_; rintro e w9 ⟨r0, rfl, hr0, h9⟩; obtain rfl : r0 = 3 := (hr0.resolve_left (fun hh => Bool.noConfusion (HE.out.2 hh.2))).1; clear hr0)
                      | (go_at_call 18; refine HAt.out.mono ?_; rintro e w9 ⟨rfl, rfl⟩))
                    clear HDone2 HAt h8
                    go_roundw
                    case rel => first | exact ⟨i + 1, a, by omega, rfl, by go_num, by omega, h9⟩ | ((repeat apply Exists.intro); exact ⟨⟨i + 1, a, by omega, rfl, by go_num, by omega, h9⟩, rfl⟩)
                    case measure => simp [intOf]; omega
                  · go_wp2_with (first
                      | (go_at_call 19; refine HDone.out.mono ?_; rintro e w8 ⟨r0, rfl, hr0, h9⟩; obtain rfl : r0 = 0 := (hr0.resolve_right (fun hh => hh.2 (HE.out.1 (by simp)))).1; clear hr0 HDone)
                      | (go_at_call 18; refine HAt.out.mono ?_; rintro e w9 ⟨rfl, rfl⟩))
                    clear HAt
                    go_roundw
                    case rel => first | exact ⟨i + 1, a, by omega, rfl, by go_num, by omega, h9⟩ | ((repeat apply Exists.intro); exact ⟨⟨i + 1, a, by omega, rfl, by go_num, by omega, h9⟩, rfl⟩)
                    case measure => simp [intOf]; omega
          · obtain ⟨k, rfl⟩ : ∃ k : Nat, c = k := ⟨c.toNat, by omega⟩
            have hr1 : ¬ (k : Int) < 0 := by omega
            have hr2 : ¬ (64 : Int) < k := by omega
            have hk : k ≤ 64 := by omega
            clear hr hc1 hc2
            by_cases hle : a + k ≤ N
            · have HT := Lib.hid (btake_st h (by omega) k (by omega) (by have := HS8.out; omega))
              have HV := Lib.hid (part_num s.data.toList a k (by have := HS8.out; simp; omega))
              rw [← HV.out] at HT
              obtain ⟨V, hV⟩ : ∃ V, V = numL (((allB s.data.toList).drop a).take k) := ⟨_, rfl⟩
              have HVV := Lib.hid hV
              rw [← hV] at HT
              clear hV
              have hle2 : ¬ (N : Int) - a < k := by omega
              obtain ⟨B, hB⟩ : ∃ B, B = a + k := ⟨_, rfl⟩
              have HB := Lib.hid hB
              rw [← hB] at HT
              have hBN : B ≤ N := by omega
              have hBi : (a : Int) + k = B := by omega
              clear hB
              go_wp2_with (first
                | (go_at_call 16; refine HT.out.mono ?_; rintro e w2 ⟨rfl, h2⟩; obtain ⟨A6, c6, hA6, HN6⟩ := part_facts h2 HN.out hle hk B HB.out; rw [← HVV.out] at HN6; have HNN := Lib.hid HN6; clear HN6)
                | (go_at_call 17; refine (HNN.out _ (Mut.refl noB _)).mono ?_; rintro e w3 ⟨rfl, x3⟩; clear hA6; have h3 := h2.ext x3; obtain ⟨A5, D, c5, HD, hA5, hB5⟩ := rest_facts h3 HN.out hBN))
              clear hA5
              obtain ⟨hDn, hDB⟩ : D = N - B ∧ (D : Int) = (N : Int) - B := by have := HD.out; omega
              have HDN := Lib.hid hDn
              have HDB := Lib.hid hDB
              have hDle : D ≤ 1600 := by omega
              clear hDn hDB
              have HDone := Lib.hid (bdone_st h3 (by have := HS8.out; omega) (by omega))
              have HAt := Lib.hid (bat_st h3)
              go_loop [12, 95] (fun v12 vj => ∃ j : Nat, j ≤ D ∧ v12 = .bool (noneTo (allB s.data.toList) B j) ∧ vj = .int .i64 j) (fun _ vj => D - (intOf vj).toNat)
              case atStart => exact ⟨0, by omega, by rw [noneTo, HN.out, ← HDB.out]; congr 1; simp only [decide_eq_decide]; have := HDN.out; omega, rfl⟩
              case round =>
                obtain ⟨j, hj, rfl, rfl⟩ := hrel
                by_cases hlj : j < D
                · obtain ⟨b5, o5, rfl, hc5⟩ := hB5 j hlj
                  have HE := Lib.hid (show noneTo (allB s.data.toList) B (j + 1) = (noneTo (allB s.data.toList) B j && !gd (allB s.data.toList) (B + j)) from rfl)
                  obtain ⟨q1, hq1⟩ : ∃ q1, q1 = noneTo (allB s.data.toList) B (j + 1) := ⟨_, rfl⟩
                  have HQ := Lib.hid hq1
                  rw [← hq1] at HE
                  clear hq1
                  generalize noneTo (allB s.data.toList) B j = q at HE ⊢
                  generalize gd (allB s.data.toList) (B + j) = bit at hc5 HE
                  cases q
                  · go_wp2_with fail
                    go_round
                    case rel => exact ⟨j + 1, by omega, by rw [← HQ.out, HE.out]; rfl, by go_num⟩
                    case measure => simp [intOf]; omega
                  · go_wp2_with fail
                    go_round
                    case rel => exact ⟨j + 1, by omega, by rw [← HQ.out, HE.out]; rfl, by go_num⟩
                    case measure => simp [intOf]; omega
                · obtain rfl : j = D := by omega
                  have HE := Lib.hid (noneTo_rest s.data.toList B (by have := HS8.out; simp; omega))
                  rw [show 8 * s.data.toList.length - B = j by have := HS8.out; have := HDN.out; simp; omega] at HE
                  generalize noneTo (allB s.data.toList) B j = q at HE ⊢
                  cases q
                  · go_wp2_with (first
                      | (go_at_call 19; refine HDone.out.mono ?_; rintro e w8 ⟨r0, rfl, hr0, h8⟩; obtain rfl : r0 = 3 := (hr0.resolve_left (fun hh => Bool.noConfusion (HE.out.2 hh.2))).1; clear hr0 HDone; have HDone2 := Lib.hid (bdone_st h8 (by have := HS8.out; omega) (by omega)))
                      | (go_at_call 19; refine HDone2.out.mono ?_; rintro e w9 ⟨r0, rfl, hr0, h9⟩; obtain rfl : r0 = 3 := (hr0.resolve_left (fun hh => Bool.noConfusion (HE.out.2 hh.2))).1; clear hr0)
                      | (go_at_call 18; refine HAt.out.mono ?_; rintro e w9 ⟨rfl, rfl⟩))
                    clear HDone2 HAt h8
                    go_roundw
                    case rel => first | exact ⟨i + 1, B, by omega, rfl, by go_num, by omega, h9⟩ | ((repeat apply Exists.intro); exact ⟨⟨i + 1, B, by omega, rfl, by go_num, by omega, h9⟩, rfl⟩)
                    case measure => simp [intOf]; omega
                  · go_wp2_with (first
                      | (go_at_call 19; refine HDone.out.mono ?_; rintro e w8 ⟨r0, rfl, hr0, h9⟩; obtain rfl : r0 = 0 := (hr0.resolve_right (fun hh => hh.2 (HE.out.1 (by simp)))).1; clear hr0 HDone)
                      | (go_at_call 18; refine HAt.out.mono ?_; rintro e w9 ⟨rfl, rfl⟩))
                    clear HAt
                    go_roundw
                    case rel => first | exact ⟨i + 1, B, by omega, rfl, by go_num, by omega, h9⟩ | ((repeat apply Exists.intro); exact ⟨⟨i + 1, B, by omega, rfl, by go_num, by omega, h9⟩, rfl⟩)
                    case measure => simp [intOf]; omega
            · have HT := Lib.hid (btake_end h (by have := HS8.out; omega) (by omega) k (by omega) (by have := HS8.out; omega))
              have hle2 : (N : Int) - a < k := by omega
              go_wp2_with (go_at_call 16; refine HT.out.mono ?_; rintro e w2 ⟨rfl, x2⟩; have h2 := h.ext x2; obtain ⟨A5, D, c5, HD, hA5, hB5⟩ := rest_facts h2 HN.out ha)
              clear hA5
              obtain ⟨hDn, hDB⟩ : D = N - a ∧ (D : Int) = (N : Int) - a := by have := HD.out; omega
              have HDN := Lib.hid hDn
              have HDB := Lib.hid hDB
              have hDle : D ≤ 1600 := by omega
              clear hDn hDB
              have HDone := Lib.hid (bdone_st h2 (by have := HS8.out; omega) (by omega))
              have HAt := Lib.hid (bat_st h2)
              go_loop [12, 95] (fun v12 vj => ∃ j : Nat, j ≤ D ∧ v12 = .bool (noneTo (allB s.data.toList) a j) ∧ vj = .int .i64 j) (fun _ vj => D - (intOf vj).toNat)
              case atStart => exact ⟨0, by omega, by rw [noneTo, HN.out, ← HDB.out]; congr 1; simp only [decide_eq_decide]; have := HDN.out; omega, rfl⟩
              case round =>
                obtain ⟨j, hj, rfl, rfl⟩ := hrel
                by_cases hlj : j < D
                · obtain ⟨b5, o5, rfl, hc5⟩ := hB5 j hlj
                  have HE := Lib.hid (show noneTo (allB s.data.toList) a (j + 1) = (noneTo (allB s.data.toList) a j && !gd (allB s.data.toList) (a + j)) from rfl)
                  obtain ⟨q1, hq1⟩ : ∃ q1, q1 = noneTo (allB s.data.toList) a (j + 1) := ⟨_, rfl⟩
                  have HQ := Lib.hid hq1
                  rw [← hq1] at HE
                  clear hq1
                  generalize noneTo (allB s.data.toList) a j = q at HE ⊢
                  generalize gd (allB s.data.toList) (a + j) = bit at hc5 HE
                  cases q
                  · go_wp2_with fail
                    go_round
                    case rel => exact ⟨j + 1, by omega, by rw [← HQ.out, HE.out]; rfl, by go_num⟩
                    case measure => simp [intOf]; omega
                  · go_wp2_with fail
                    go_round
                    case rel => exact ⟨j + 1, by omega, by rw [← HQ.out, HE.out]; rfl, by go_num⟩
                    case measure => simp [intOf]; omega
                · obtain rfl : j = D := by omega
                  have HE := Lib.hid (noneTo_rest s.data.toList a (by have := HS8.out; simp; omega))
                  rw [show 8 * s.data.toList.length - a = j by have := HS8.out; have := HDN.out; simp; omega] at HE
                  generalize noneTo (allB s.data.toList) a j = q at HE ⊢
                  cases q
                  · go_wp2_with (first
                      | (go_at_call 19; refine HDone.out.mono ?_; rintro e w8 ⟨r0, rfl, hr0, h8⟩; obtain rfl : r0 = 3 := (hr0.resolve_left (fun hh => Bool.noConfusion (HE.out.2 hh.2))).1; clear hr0 HDone; have HDone2 := Lib.hid (bdone_st h8 (by have := HS8.out; omega) (by omega)))
                      | (go_at_call 19; refine HDone2.out.mono ?_; rintro e w9 ⟨r0, rfl, hr0, h9⟩; obtain rfl : r0 = 3 := (hr0.resolve_left (fun hh => Bool.noConfusion (HE.out.2 hh.2))).1; clear hr0)
                      | (go_at_call 18; refine HAt.out.mono ?_; rintro e w9 ⟨rfl, rfl⟩))
                    clear HDone2 HAt h8
                    go_roundw
                    case rel => first | exact ⟨i + 1, a, by omega, rfl, by go_num, by omega, h9⟩ | ((repeat apply Exists.intro); exact ⟨⟨i + 1, a, by omega, rfl, by go_num, by omega, h9⟩, rfl⟩)
                    case measure => simp [intOf]; omega
                  · go_wp2_with (first
                      | (go_at_call 19; refine HDone.out.mono ?_; rintro e w8 ⟨r0, rfl, hr0, h9⟩; obtain rfl : r0 = 0 := (hr0.resolve_right (fun hh => hh.2 (HE.out.1 (by simp)))).1; clear hr0 HDone)
                      | (go_at_call 18; refine HAt.out.mono ?_; rintro e w9 ⟨rfl, rfl⟩))
                    clear HAt
                    go_roundw
                    case rel => first | exact ⟨i + 1, a, by omega, rfl, by go_num, by omega, h9⟩ | ((repeat apply Exists.intro); exact ⟨⟨i + 1, a, by omega, rfl, by go_num, by omega, h9⟩, rfl⟩)
                    case measure => simp [intOf]; omega
        · obtain rfl : i = m := by omega
          go_wp2_with fail
          go_ret
          exact ⟨rfl, h.ends⟩
    · go_enter Try.func4, Try.ntmps4
      go_wp2_with (go_at_call 8; refine (bawake_any _).mono ?_; rintro e w1 ⟨rfl, x1⟩)
      go_ret
      exact ⟨rfl, Mut.trans (by assumption) x1⟩
  · go_enter Try.func4, Try.ntmps4
    go_wp2_with (go_at_call 8; refine (bawake_any _).mono ?_; rintro e w1 ⟨rfl, x1⟩)
    go_ret
    exact ⟨rfl, Mut.trans (by assumption) x1⟩
end Go.Proofs.Ythbnokaclolknaa
