/- Layer 21: the streams of events. -/
import Derived.Test.YtjdglpngcdcneaaGreatESz
namespace Go.Proofs.YtjdglpngcdcneaaGreat
open Go.RowKit Go.WideShapes
set_option linter.unusedVariables false
set_option linter.unusedSimpArgs false
set_option linter.unusedSectionVars false
theorem check_ok (l : List Ev) : checkE l = (0, 0) ↔ l.length ≤ 65536 ∧ ∀ i, i < l.length → rightE (l.getD i default) := by
  unfold checkE
  constructor
  · intro h
    by_cases h0 : 65536 < l.length
    · rw [if_pos h0] at h; cases h
    · rw [if_neg h0] at h
      refine ⟨by omega, fun i hi => ?_⟩
      by_cases hr : rightE (l.getD i default)
      · exact hr
      · exfalso
        cases hb : badE l with
        | some j => rw [hb] at h; cases h
        | none =>
          unfold badE at hb
          rw [List.findIdx?_eq_none_iff] at hb
          have := hb (l.getD i default) (by rw [List.getD_eq_getElem?_getD, List.getElem?_eq_getElem hi]; exact List.getElem_mem hi)
          simp only [Bool.not_eq_eq_eq_not, Bool.not_false, decide_eq_true_eq] at this
          exact hr this
  · rintro ⟨h0, h1⟩
    rw [if_neg (by omega), badE_none l h1]
theorem check_code (l : List Ev) : checkE l = (0, 0) ∨ (checkE l).2 = 3 ∨ (checkE l).2 = 4 := by
  unfold checkE
  split
  · exact .inr (.inr rfl)
  · split
    · exact .inr (.inl rfl)
    · exact .inl rfl
def strsE (l : List Ev) : List UInt8 := if checkE l = (0, 0) then streamsP l else []
theorem of_len (l : List Ev) (t : Int) : (ofE l t).length ≤ l.length := ofK_len l t _
theorem Own.irow {w : World} {A : Option Addr} {n c : Nat} {l : List Nat} (h : Own w 3 1 (.slice A n c) n (ixV l)) (hl : l.length = n) : IRow w A l := fun i hi => by
  obtain ⟨g, cap, e, _⟩ := h.slice (by omega)
  cases e
  have hc := h.cell i (by omega)
  rw [ixV_get _ _ hi] at hc
  exact ⟨g, 0, rfl, by rw [Nat.zero_add]; exact hc⟩
set_option maxRecDepth 20000 in
set_option maxHeartbeats 8000000 in
theorem strs_bad (A : Option Addr) (ca n : Nat) (l : List Ev) (w : World) (hn : l.length = n) (hl : n ≤ 1000000) (hr : ERow w A l) (hb : checkE l ≠ (0, 0)) :
    Calls Tryz.prog 7 #[.slice A n ca] w fun e w' => e = .returned (.tuple #[.string ⟨#[]⟩, .int .i64 (checkE l).2]) ∧ Ext w w' := by
  have HC := Lib.hid (check_any A ca n l w hn hl hr)
  have hc := (check_code l).resolve_left hb
  generalize checkE l = R at HC hc ⊢
  obtain ⟨a, c⟩ := R
  dsimp only at hc HC ⊢
  have hcne : ((c : Int) != 0) = true := by rw [bne_iff_ne]; omega
  clear hb hc
  go_enter Tryz.func7, Tryz.ntmps7
  go_wp2_with fail
  refine HC.out.mono ?_
  rintro _ w1 ⟨rfl, x1⟩
  go_wp2_with fail
  go_ret2
  exact ⟨rfl, x1⟩
set_option maxRecDepth 20000 in
set_option maxHeartbeats 8000000 in
theorem strs_ok (A : Option Addr) (ca n : Nat) (l : List Ev) (w : World) (hn : l.length = n) (hr : ERow w A l) (hok : checkE l = (0, 0)) (hV : ∀ i, i < l.length → (l.getD i default).vl < 18446744073709551616) :
    Calls Tryz.prog 7 #[.slice A n ca] w fun e w' => e = .returned (.tuple #[.string ⟨(streamsP l).toArray⟩, .int .i64 0]) ∧ Ext w w' := by
  have hk := (check_ok l).1 hok
  have hA : AllE l := fun i hi => ⟨hk.2 i hi, hV i hi⟩
  have hn6 : n ≤ 65536 := by omega
  have HC := Lib.hid (check_any A ca n l w hn (by omega) hr)
  rw [hok] at HC
  have HTO := Lib.hid (thr_to l n hn)
  have hmk := run_make_nums n (by omega)
  have HST := Lib.hid (streams_eq l)
  have HT := Lib.hid (show AllLt (thr l) ∧ (thr l).length = n ∧ (rbl (pk (thr l))).length ≤ 10 + 4 * n from ⟨thr_lt l hA, by rw [thr_len]; exact hn, by rw [← hn]; exact thr_short l hA (by omega)⟩)
  have HLL := Lib.hid (fun t => (show (lays l t).length ≤ 40 * t + 52 * n from by have h1 := lays_len l hA (by omega) t; have h2 := cntE_le l t; omega))
  have HIN := Lib.hid (ofE_in l)
  have HOL := Lib.hid (of_len l)
  have HLS := Lib.hid (lays_succ l)
  have HE0 := Lib.hid (show lays l 0 = [] from rfl)
  have HN := Lib.hid hn
  have HA := Lib.hid hA
  clear hok hk hV hA hn
  generalize streamsP l = R at HST ⊢
  generalize thr l = T at *
  go_enter Tryz.func7, Tryz.ntmps7
  go_wp2_with fail
  refine HC.out.mono ?_
  rintro _ w1 ⟨rfl, x1⟩
  clear HC
  have h1 := ((St.start noB w).ext x1).newWr
  have h2 := h1.made 34 1 n n (numsV (List.replicate n 0)).toArray (Nat.le_refl _) (by unfold maxLen; omega) (by simp [numsV])
  simp only [Nat.mul_one, List.take_toArray] at h2
  go_wp2_with fail
  clear hmk
  rw [World.size_alloc] at h2
  generalize World.alloc (World.alloc w1 _) _ = w2 at h2 ⊢
  generalize w1.heap.size + 1 = x at h2 ⊢
  generalize w1.heap.size = wb at h2 ⊢
  clear h1 x1
  go_loopw [25] (fun v25 wr => ∃ i : Nat, i ≤ n ∧ v25 = .int .i64 i ∧ St noB w wr [ownT 34 1 (.slice (some ⟨x, 0, none⟩) n n) n (numsV (mapTo (fun i => (l.getD i default).th.toNat) i n)), wrT wb []]) (fun v25 _ => n - (intOf v25).toNat)
  case atStart => exact ⟨0, by omega, rfl, by rw [mapTo_zero]; simpa [numsV] using h2⟩
  case round =>
    clear h2
    obtain ⟨i, hi, rfl, h⟩ := hrel
    by_cases hlt : i < n
    · have hlti : (i : Int) < (n : Int) := by omega
      have hl0 : (0 : Int) ≤ (i : Int) := by omega
      have hil : i < l.length := by rw [HN.out]; exact hlt
      obtain ⟨b, off, rfl, c0, c1, c2, c3, c4⟩ := (hr.ext h.ends) i hil
      have hth := (HA.out i hil).1.2.2.2.1
      have hth0 := (HA.out i hil).1.2.2.1
      have HS := Lib.hid (mapTo_set (fun i => (l.getD i default).th.toNat) i n hlt)
      have hmg := numsV_get (mapTo (fun i => (l.getD i default).th.toNat) i n) i (by rw [mapTo_len _ _ _ hi]; exact hlt)
      generalize mapTo (fun i => (l.getD i default).th.toNat) i n = m1 at h HS hmg
      obtain ⟨m2, hm2⟩ : ∃ m2, mapTo (fun i => (l.getD i default).th.toNat) (i + 1) n = m2 := ⟨_, rfl⟩
      rw [hm2] at HS
      have HM2 := Lib.hid hm2
      clear hm2
      generalize l.getD i default = ev at *
      obtain ⟨th, kd, rg, tk, vl⟩ := ev
      dsimp only at c0 c1 c2 c3 c4 hth hth0 HS
      have hw : IntKind.u64.wrap th = th := by rw [IntKind.wrap_u64]; omega
      have h5 := h.alloc #[.int .i64 th, .int .i64 kd, .int .i64 rg, .int .u64 tk, .int .u64 vl] 36
      have k0 : _ = some (Value.int .i64 th) := cell_of_heap h5.blk 0
      have h6 := h5.drop
      clear h5 h
      have kc := h6.own.cell i (by omega)
      rw [hmg] at kc
      have kf := h6.own.free i
      have h7 := h6.stored i (.int .u64 th)
      rw [show Value.int .u64 th = Value.int .u64 ((th.toNat : Nat) : Int) by rw [show (th.toNat : Int) = th by omega], numsV_set, HS.out, show ((th.toNat : Nat) : Int) = th by omega] at h7
      have h8 : St noB w (World.setCell (wr.alloc (.cells #[.int .i64 th, .int .i64 kd, .int .i64 rg, .int .u64 tk, .int .u64 vl] 36)) _ _) _ := h7
      clear h6 h7
      go_wp2_with fail
      exact ⟨⟨i + 1, by omega, by go_num, (by rw [HM2.out]; exact h8)⟩, by simp only [intOf]; omega⟩
    · obtain rfl : i = n := by omega
      have hlti : ¬ (i : Int) < (i : Int) := by omega
      rw [HTO.out] at h
      have HP := Lib.hid (runprint_any (some ⟨x, 0, none⟩) i i T wr HT.out.2.1 (by omega) (Own.nrow h.own HT.out.2.1) HT.out.1)
      have hRl := HT.out.2.2
      clear HT HTO
      generalize rbl (pk T) = HD at *
      go_wp2_with fail
      refine HP.out.mono ?_
      rintro _ w3 ⟨rfl, x3⟩
      have h4 := (h.ext x3).drop
      clear HP x3 h
      go_wp2_with fail
      refine (text_st h4 ⟨HD.toArray⟩ (by rw [bytes_size, List.length_nil]; omega)).mono ?_
      rintro _ w4 ⟨rfl, h5⟩
      have h6 : St noB w w4 [wrT wb (HD ++ lays l 0)] := by rw [HE0.out, List.append_nil]; exact h5
      clear h4 h5 HE0
      go_wp2_with fail
      go_loopw [40] (fun v40 wr => ∃ t : Nat, t ≤ 8 ∧ v40 = .int .i64 t ∧ St noB w wr [wrT wb (HD ++ lays l t)]) (fun v40 _ => 8 - (intOf v40).toNat)
      case atStart => exact ⟨0, by omega, rfl, h6⟩
      case round =>
        clear h6
        obtain ⟨t, ht, rfl, h⟩ := hrel
        have hlt := HLL.out t
        by_cases ht8 : t < 8
        · have ht8i : (t : Int) < 8 := by omega
          have HO := Lib.hid (of_st h A ca i l HN.out (by omega) t (fun w' q => hr.ext q.ends))
          have HLST := Lib.hid (HLS.out t)
          have hin := HIN.out (t : Int)
          have hol := HOL.out (t : Int)
          rw [HN.out] at hin hol
          obtain ⟨m, hm⟩ : ∃ m, (ofE l (t : Int)).length = m := ⟨_, rfl⟩
          have HM := Lib.hid hm
          rw [hm] at hin hol HLST HO
          have HLY := Lib.hid (fun w' A' c' (hI : IRow w' A' (ofE l (t : Int))) (hE : ERow w' A l) => lay_any A ca i l w' HN.out (by omega) hE (fun k hk => (HA.out k (by rw [HN.out]; exact hk)).1) (fun k hk => (HA.out k (by rw [HN.out]; exact hk)).2) A' c' m _ hm (by omega) hI hin)
          have hly := layE_len l (ofE l (t : Int)) HA.out (ofE_in l _) (by omega)
          rw [hm] at hly
          clear hm hin
          generalize ofE l (t : Int) = at' at *
          generalize layE l at' = LY at *
          go_wp2_with fail
          refine HO.out.mono ?_
          rintro _ w5 ⟨A', c', rfl, h7⟩
          by_cases hm0 : m = 0
          · have hm0i : ((m : Int) > 0) = False := by simp; omega
            have hgt : ¬ (0 : Int) < (m : Int) := by omega
            rw [if_pos hm0, List.append_nil] at HLST
            have h8 : St noB w w5 [wrT wb (HD ++ lays l (t + 1))] := by rw [HLST.out]; exact h7.drop
            go_wp2_with fail
            exact ⟨⟨t + 1, by omega, by go_num, h8⟩, by simp only [intOf]; omega⟩
          · have hgt : (0 : Int) < (m : Int) := by omega
            rw [if_neg hm0] at HLST
            have HLY := Lib.hid (HLY.out w5 A' c' (Own.irow h7.own HM.out) (hr.ext h7.ends))
            go_wp2_with fail
            refine HLY.out.mono ?_
            rintro _ w6 ⟨rfl, x6⟩
            have h8 := (h7.ext x6).drop
            clear h7 x6 HLY
            go_wp2_with fail
            refine (text_st h8 ⟨LY.toArray⟩ (by rw [bytes_size, List.length_append]; omega)).mono ?_
            rintro _ w7 ⟨rfl, h9⟩
            have h10 : St noB w w7 [wrT wb (HD ++ lays l (t + 1))] := by rw [HLST.out, ← List.append_assoc]; exact h9
            go_wp2_with fail
            exact ⟨⟨t + 1, by omega, by go_num, h10⟩, by simp only [intOf]; omega⟩
        · obtain rfl : t = 8 := by omega
          have ht8i : ¬ ((8 : Nat) : Int) < 8 := by omega
          rw [← HST.out] at h
          have HS := Lib.hid (str_st h)
          go_wp2_with (go_at_call 21; refine HS.out.mono ?_; rintro e w3 ⟨rfl, rfl⟩)
          go_ret2
          exact ⟨rfl, h.ends⟩
end Go.Proofs.YtjdglpngcdcneaaGreat
