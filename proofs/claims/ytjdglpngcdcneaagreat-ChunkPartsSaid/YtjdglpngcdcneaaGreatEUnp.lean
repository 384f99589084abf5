/- Layer 21: streams are unpacked. -/
import Derived.Test.YtjdglpngcdcneaaGreatEUnpP
namespace Go.Proofs.YtjdglpngcdcneaaGreat
open Go.RowKit Go.WideShapes
set_option linter.unusedVariables false
set_option linter.unusedSimpArgs false
set_option linter.unusedSectionVars false
def UnpOK (R : Option (List Ev)) (most : Nat) (W : World) (e : Ending) (w' : World) : Prop :=
  (∃ (l : List Ev) (n x0 : Nat), R = some l ∧ l.length = n ∧ n ≤ most ∧ VLok l ∧ e = .returned (.tuple #[.slice (some ⟨x0, 0, none⟩) n n, .bool true]) ∧ St noB W w' [ownT 36 5 (.slice (some ⟨x0, 0, none⟩) n n) n (evsV l)]) ∨
  (R = none ∧ e = .returned (.tuple #[.slice none 0 0, .bool false]) ∧ Ext W w')
set_option maxRecDepth 20000 in
set_option maxHeartbeats 8000000 in
theorem unp_any (s : ByteArray) (hs : s.size ≤ 4200000) (most : Nat) (hm : most ≤ 65536) (w : World) :
    Calls Tryz.prog 28 #[.string s, .int .i64 most] w fun e w' => UnpOK (unpackedP s.data.toList most) most w e w' := by
  obtain ⟨R, hR⟩ : ∃ R, unpackedP s.data.toList most = R := ⟨_, rfl⟩
  rw [hR]
  unfold unpackedP at hR
  have hmo := rrl_most s.data.toList 0 most
  have HN := Lib.hid (new_st (St.start noB w) s)
  generalize w.heap.size = rb at HN
  have HRR := Lib.hid (fun w1 (h : St noB w w1 [rdT rb s 0]) => runread_st h hs (Nat.zero_le _) most (by omega))
  have hft := rrl_facts s.data.toList 0 most (Nat.zero_le _)
  obtain ⟨⟨ths, er, a⟩, hr⟩ : ∃ r, rrl s.data.toList 0 most = r := ⟨_, rfl⟩
  rw [hr] at hmo HRR hft hR
  dsimp only at hmo HRR hft hR
  have HRP := Lib.hid hR
  clear hR hr
  have ha : a ≤ s.size := by simpa using hft.2.2
  have HAL := Lib.hid hft.1
  clear hft
  go_enter Tryz.func28, Tryz.ntmps28
  go_wp2_with fail
  refine HN.out.mono ?_
  rintro _ w1 ⟨rfl, h1⟩
  go_wp2_with fail
  refine (HRR.out w1 h1).mono ?_
  rintro _ w2 ⟨v, rfl, h2⟩
  clear HN HRR h1
  obtain ⟨A3, c3, rfl⟩ := h2.own.form
  by_cases he : er = 0
  · subst he
    have HRQ := HRP.out
    rw [if_pos rfl] at HRQ
    have HRZ := Lib.hid HRQ
    clear HRQ HRP
    obtain ⟨n, hn⟩ : ∃ n, ths.length = n := ⟨_, rfl⟩
    unfold nlT at h2
    rw [hn] at h2 hmo ⊢
    have HTN := Lib.hid hn
    have hmk := run_make_evs n (by omega)
    have h3 := h2.made 36 5 n n (evsV (List.replicate n zeroEv)).toArray (Nat.le_refl _) (by unfold maxLen; omega) (by simp [evsV_len])
    rw [List.take_of_length_le (by simp [evsV_len])] at h3
    have e0 : evsV (List.replicate n zeroEv) = evsV (thrTo ths 0) := by rw [thrTo_zero, hn]
    have HE0 := Lib.hid e0
    clear e0
    clear hn
    go_wp2_with fail
    clear hmk h2
    generalize w2.alloc (.cells (evsV (List.replicate n zeroEv)).toArray 36) = w3 at h3 ⊢
    generalize w2.heap.size = x0 at h3 ⊢
    go_loopw [29] (fun v29 wr => ∃ i : Nat, i ≤ n ∧ v29 = .int .i64 i ∧ St noB w wr [ownT 36 5 (.slice (some ⟨x0, 0, none⟩) n n) n (evsV (thrTo ths i)), ownT 34 1 (.slice A3 n c3) n (numsV ths), rdT rb s a]) (fun v29 _ => n - (intOf v29).toNat)
    case atStart => exact ⟨0, by omega, rfl, by rw [← HE0.out]; exact h3⟩
    case round =>
      clear h3
      obtain ⟨i, hi, rfl, h⟩ := hrel
      by_cases hlt : i < n
      · have hlti : (i : Int) < (n : Int) := by omega
        have hl0 : (0 : Int) ≤ (i : Int) := by omega
        obtain ⟨nb, no, rfl, cn⟩ := (Own.nrow (h.pull 1).own HTN.out) i (by rw [HTN.out]; exact hlt)
        have h64 := HAL.out i (by rw [HTN.out]; exact hlt)
        have HSM := Lib.hid (fun w => small_any (ths.getD i 0) h64 w)
        have HLN := thrTo_len ths i (by rw [HTN.out]; exact hi)
        rw [HTN.out] at HLN
        have HTS := Lib.hid (thrTo_succ ths i (by rw [HTN.out]; exact hlt))
        have hg := thrTo_get ths i (by rw [HTN.out]; exact hlt)
        obtain ⟨t, ht⟩ : ∃ t, ths.getD i 0 = t := ⟨_, rfl⟩
        rw [ht] at cn h64 HSM HTS
        clear ht
        obtain ⟨u, hu⟩ := evs_cell h HLN i 0 hlt (by omega)
        simp only [Nat.add_zero] at hu
        have hf := h.own.free (i * 5)
        have h5 := h.stored (i * 5 + 0) (.int .i64 (smallN t : Nat))
        rw [evs_set _ i 0 (by omega) (by omega) _ (evOfTh t) (by rw [hg]; rfl), ← HTS.out] at h5
        simp only [Nat.add_zero] at h5
        clear HTS hg h
        generalize smallN t = q at *
        go_wp2_with fail
        refine (HSM.out _).mono ?_
        rintro _ _ ⟨rfl, rfl⟩
        go_wp2_with fail
        exact ⟨⟨i + 1, by omega, by go_num, h5⟩, by simp only [intOf]; omega⟩
      · obtain rfl : i = n := by omega
        have hlti : ¬ (i : Int) < (i : Int) := by omega
        have e : thrTo ths i = ths.map evOfTh := by rw [← HTN.out]; exact thrTo_all ths
        rw [e] at h
        clear e
        have HV := Lib.hid (thrTo_vl ths)
        have HL : Hid ((ths.map evOfTh).length = i) := Lib.hid (by rw [List.length_map]; exact HTN.out)
        generalize ths.map evOfTh = l0 at *
        have h6 : St noB w wr [ownT 36 5 (.slice (some ⟨x0, 0, none⟩) i i) i (evsV l0), rdT rb s a] := h.swap.drop
        have HJ0 := Lib.hid (show thrsJ s.data.toList 0 (l0, a) = some (l0, a) from rfl)
        clear h HAL HTN
        go_wp2_with fail
        go_loopw [41] (fun v41 wr => ∃ (t a' : Nat) (l' : List Ev), v41 = .int .i64 t ∧ t ≤ 8 ∧ a' ≤ s.size ∧ Hid (thrsJ s.data.toList t (l0, a) = some (l', a')) ∧ Hid (l'.length = i) ∧ Hid (VLok l') ∧ St noB w wr [ownT 36 5 (.slice (some ⟨x0, 0, none⟩) i i) i (evsV l'), rdT rb s a']) (fun v41 _ => 8 - (intOf v41).toNat)
        case atStart => exact ⟨0, a, l0, rfl, by omega, ha, HJ0, HL, HV, h6⟩
        case round =>
          clear h6 HJ0 HL HV ha
          obtain ⟨t, a', l', rfl, ht, ha, HJ, HL, HV, h⟩ := hrel
          by_cases ht8 : t < 8
          · have ht8i : (t : Int) < 8 := by omega
            have HO := Lib.hid (of_st h (some ⟨x0, 0, none⟩) i i l' HL.out (by omega) t (fun w' q => Own.erow q.own HL.out))
            have HJS := Lib.hid (show thrsJ s.data.toList (t + 1) (l0, a) = (if (ofE l' (t : Int)).length = 0 then some (l', a') else fillJ s.data.toList (ofE l' (t : Int)) 4 (l', a')) by rw [thrsJ, HJ.out]; rfl)
            have HNO := Lib.hid (fun q => thrsJ_none s.data.toList (t + 1) (l0, a) q (by omega))
            have hin := ofE_in l' (t : Int)
            have hol := of_len l' (t : Int)
            rw [HL.out] at hin hol
            obtain ⟨m, hm⟩ : ∃ m, (ofE l' (t : Int)).length = m := ⟨_, rfl⟩
            have HM := Lib.hid hm
            rw [hm] at hin hol HJS HO
            have HFL := Lib.hid (fun w' A' c' (q : St noB w w' [rdT rb s a', ownT 36 5 (.slice (some ⟨x0, 0, none⟩) i i) i (evsV l'), ownT 3 1 (.slice A' m c') m (ixV (ofE l' (t : Int)))]) => fill_st rb a' x0 i i m c' s l' _ A' q hs ha HL.out (by omega) hm (by omega) HV.out hin)
            clear hm hin
            generalize ofE l' (t : Int) = at' at *
            go_wp2_with fail
            refine HO.out.mono ?_
            rintro _ w5 ⟨A', c', rfl, h7⟩
            by_cases hm0 : m = 0
            · have hgt : ¬ (0 : Int) < (m : Int) := by omega
              have e := HJS.out
              rw [if_pos hm0] at e
              have HJ2 := Lib.hid e
              clear e
              go_wp2_with fail
              exact ⟨⟨t + 1, a', l', by go_num, by omega, ha, HJ2, HL, HV, h7.drop⟩, by simp only [intOf]; omega⟩
            · have hgt : (0 : Int) < (m : Int) := by omega
              have e := HJS.out
              rw [if_neg hm0] at e
              have HJ2 := Lib.hid e
              clear e
              have h8 := ((h7.pull 1).pull 2)
              go_wp2_with fail
              refine (HFL.out w5 A' c' h8).mono ?_
              rintro _ w6 (⟨l2, a2, e1, e2, e3, e4, rfl, h9⟩ | ⟨e1, rfl, h9⟩)
              · have HJ3 := Lib.hid (HJ2.out.trans e1)
                have HL2 := Lib.hid e2
                have HV2 := Lib.hid e4
                clear HJ2 e1 e2 e4
                go_wp2_with fail
                exact ⟨⟨t + 1, a2, l2, by go_num, by omega, e3, HJ3, HL2, HV2, (h9.swap.pull 2).drop⟩, by simp only [intOf]; omega⟩
              · have HF := Lib.hid (HNO.out (HJ2.out.trans e1))
                clear HJ2 e1
                go_wp2_with fail
                go_ret2
                exact .inr ⟨by rw [← HRZ.out, HF.out]; rfl, rfl, h9.ends⟩
          · obtain rfl : t = 8 := by omega
            have ht8i : ¬ ((8 : Nat) : Int) < 8 := by omega
            go_wp2_with fail
            go_ret2
            exact .inl ⟨l', i, x0, (by rw [← HRZ.out, HJ.out]; rfl), HL.out, hmo, HV.out, rfl, (h.pull 1).drop⟩
  · have hne : ((er : Int) != 0) = true := by rw [bne_iff_ne]; omega
    have HRQ := HRP.out
    rw [if_neg he] at HRQ
    have HRZ := Lib.hid HRQ
    clear HRQ HRP he
    go_wp2_with fail
    go_ret2
    exact .inr ⟨HRZ.out.symm, rfl, h2.ends⟩
end Go.Proofs.YtjdglpngcdcneaaGreat
