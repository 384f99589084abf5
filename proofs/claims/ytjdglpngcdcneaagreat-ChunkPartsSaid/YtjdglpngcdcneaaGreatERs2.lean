/- Layer 21, the document's: Streams. -/
import Derived.Test.YtjdglpngcdcneaaGreatERs
namespace Go.Proofs.YtjdglpngcdcneaaGreat
open Go.RowKit Go.WideShapes
set_option linter.unusedVariables false
set_option linter.unusedSimpArgs false
set_option linter.unusedSectionVars false
def pt (l : List Ev) (t i : Nat) (P : Int → Bool) (V : Ev → Nat) : List Nat := part l (ofK l (t : Int) i) P V
theorem pt_no (l : List Ev) (t i : Nat) (P : Int → Bool) (V : Ev → Nat) (h : ¬ (l.getD i default).th = (t : Int)) : pt l t (i + 1) P V = pt l t i P V := by unfold pt; rw [ofK_no l t i h]
theorem pt_yes (l : List Ev) (t i : Nat) (P : Int → Bool) (V : Ev → Nat) (h : (l.getD i default).th = (t : Int)) : pt l t (i + 1) P V = pt l t i P V ++ (if P (l.getD i default).kd then [V (l.getD i default)] else []) := by
  unfold pt
  rw [ofK_yes l t i h]
  unfold part
  rw [List.filter_append, List.map_append, List.filter_cons]
  split <;> simp
theorem pt_len (l : List Ev) (t i : Nat) (P : Int → Bool) (V : Ev → Nat) : (pt l t i P V).length ≤ i := Nat.le_trans (part_len _ _ _ _) (ofK_len l t i)
theorem pt_zero (l : List Ev) (t : Nat) (P : Int → Bool) (V : Ev → Nat) : pt l t 0 P V = [] := rfl
set_option maxRecDepth 20000 in
set_option maxHeartbeats 8000000 in
theorem rstrs_any (A : Option Addr) (ca n : Nat) (l : List Ev) (w : World) (hn : l.length = n) (hn6 : n ≤ 1000) (hr : ERow w A l) (hA : AllE l) :
    Calls Tryz.prog 10 #[.slice A n ca] w fun e w' => e = .returned (.string ⟨(streamsP l).toArray⟩) ∧ Ext w w' := by
  have HST := Lib.hid (streams_eq l)
  have HT := Lib.hid (show AllLt (thr l) ∧ (thr l).length = n ∧ (rbl (pk (thr l))).length ≤ 10 + 4 * n from ⟨thr_lt l hA, by rw [thr_len]; exact hn, by rw [← hn]; exact thr_short l hA (by omega)⟩)
  have HLL := Lib.hid (fun t => (show (lays l t).length ≤ 40 * t + 52 * n from by have h1 := lays_len l hA (by omega) t; have h2 := cntE_le l t; omega))
  have HN := Lib.hid hn
  have HA := Lib.hid hA
  have h0 := (St.start noB w).nilOwn 34 1
  clear hA hn
  generalize streamsP l = R at HST ⊢
  go_enter Tryz.func10, Tryz.ntmps10
  go_wp2_with fail
  go_loopw [3, 4] (fun v3 v4 wr => ∃ (i : Nat) (v : Value), i ≤ n ∧ v3 = v ∧ v4 = .int .i64 i ∧ St noB w wr [ownT 34 1 v i (numsV ((thr l).take i))]) (fun _ v4 _ => n - (intOf v4).toNat)
  case atStart => exact ⟨0, _, by omega, rfl, rfl, h0⟩
  case round =>
    clear h0
    obtain ⟨i, v, hi, rfl, rfl, h⟩ := hrel
    obtain ⟨A2, c2, rfl⟩ := h.own.form
    by_cases hlt : i < n
    · have hlti : (i : Int) < (n : Int) := by omega
      have hl0 : (0 : Int) ≤ (i : Int) := by omega
      have hil : i < l.length := by rw [HN.out]; exact hlt
      obtain ⟨b, off, rfl, c0, c1, c2', c3, c4⟩ := (hr.ext h.ends) i hil
      have hth := (HA.out i hil).1.2.2.2.1
      have hth0 := (HA.out i hil).1.2.2.1
      have HTK : Hid ((thr l).take (i + 1) = (thr l).take i ++ [(l.getD i default).th.toNat]) := Lib.hid (by
        rw [List.take_succ_eq_append_getElem (by rw [thr_len]; exact hil)]
        simp [thr, hil])
      generalize (l.getD i default).th = th at *
      clear c1 c2' c3 c4
      obtain ⟨tn, rfl⟩ := Int.eq_ofNat_of_zero_le hth0
      rw [Int.toNat_natCast] at HTK
      have hw : IntKind.u64.wrap (tn : Int) = (tn : Int) := by rw [IntKind.wrap_u64]; omega
      go_wp2_with (at_builtin; refine wpList_push rfl _ _ _ rfl 34 (.int .u64 0) 1 8 Tryz.underlying46 u64_info rfl (by decide) h rfl rfl rfl (numsV_one [tn]) (by unfold maxLen; omega) (by omega) ?_; intro A' c' w6 h7)
      have h8 : St noB w w6 [ownT 34 1 (.slice A' (i + 1) c') (i + 1) (numsV ((thr l).take (i + 1)))] := by
        rw [HTK.out, numsV_append]; exact h7
      go_roundw
      case rel => first | exact ⟨i + 1, _, by omega, rfl, by go_num, h8⟩ | ((repeat apply Exists.intro); exact ⟨⟨i + 1, _, by omega, rfl, by go_num, h8⟩, rfl⟩)
      case measure => simp [intOf]; omega
    · obtain rfl : i = n := by omega
      have hlti : ¬ (i : Int) < (i : Int) := by omega
      rw [List.take_of_length_le (by rw [HT.out.2.1]; exact Nat.le_refl _)] at h
      have HP := Lib.hid (rrunprint_any A2 c2 i (thr l) wr HT.out.2.1 (by omega) (Own.nrow h.own HT.out.2.1) HT.out.1)
      have hRl := HT.out.2.2
      have HX := Lib.hid h.ends
      clear HT h
      generalize rbl (pk (thr l)) = HD at *
      go_wp2_with fail
      refine HP.out.mono ?_
      rintro _ w3 ⟨rfl, x3⟩
      have HE0 := Lib.hid (show lays l 0 = [] from rfl)
      have HX3 := Lib.hid (HX.out.trans x3)
      clear HP x3 HX
      go_wp2_with fail
      go_loopw [5, 6] (fun v5 v6 wr => ∃ (t : Nat) (s : ByteArray), t ≤ 8 ∧ v5 = .string s ∧ v6 = .int .i64 t ∧ Hid (s = ⟨(HD ++ lays l t).toArray⟩) ∧ Ext w wr) (fun _ v6 _ => 8 - (intOf v6).toNat)
      case atStart => exact ⟨0, _, by omega, rfl, rfl, Lib.hid (by rw [HE0.out, List.append_nil]), HX3.out⟩
      case round =>
        clear HX3 HE0
        obtain ⟨t, s, ht, rfl, rfl, HS, x⟩ := hrel
        by_cases ht8 : t < 8
        · have ht8i : (t : Int) < 8 := by omega
          have h4 := ((((St.start noB wr).nilOwn 34 1).nilOwn 34 1).nilOwn 34 1).nilOwn 34 1
          go_wp2_with fail
          go_loopw [7, 8, 9, 10, 11] (fun v7 v8 v9 v10 v11 wq => ∃ (k : Nat) (u0 u1 u2 u3 : Value), k ≤ i ∧ v7 = u0 ∧ v8 = u1 ∧ v9 = u2 ∧ v10 = u3 ∧ v11 = .int .i64 k ∧ St noB wr wq [ownT 34 1 u0 (pt l t k P0 V0).length (numsV (pt l t k P0 V0)), ownT 34 1 u1 (pt l t k P1 V1).length (numsV (pt l t k P1 V1)), ownT 34 1 u2 (pt l t k P2 V2).length (numsV (pt l t k P2 V2)), ownT 34 1 u3 (pt l t k P3 V3).length (numsV (pt l t k P3 V3))]) (fun _ _ _ _ v11 _ => i - (intOf v11).toNat)
          case atStart => exact ⟨0, _, _, _, _, by omega, rfl, rfl, rfl, rfl, rfl, h4⟩
          case round =>
            clear h4
            obtain ⟨k, u0, u1, u2, u3, hk, rfl, rfl, rfl, rfl, rfl, h⟩ := hrel
            have hp0 := pt_len l t k P0 V0
            have hp1 := pt_len l t k P1 V1
            have hp2 := pt_len l t k P2 V2
            have hp3 := pt_len l t k P3 V3
            by_cases hki : k < i
            · have hkii : (k : Int) < (i : Int) := by omega
              have hk0 : (0 : Int) ≤ (k : Int) := by omega
              have hil : k < l.length := by rw [HN.out]; exact hki
              obtain ⟨b, off, rfl, c0, c1, c2, c3, c4⟩ := (hr.ext (x.trans h.ends)) k hil
              have hrt := (HA.out k hil).1
              have HPN := Lib.hid (fun P V => pt_no l t k P V)
              have HPY := Lib.hid (fun P V => pt_yes l t k P V)
              generalize l.getD k default = ev at *
              obtain ⟨th, kd, rg, tk, vl⟩ := ev
              dsimp only at c0 c1 c2 c3 c4
              have hkn := (right_kd hrt)
              have hrn := (right_rg hrt)
              have h64 := hrt.2.2.2.2.2.2
              obtain ⟨kn, hkn0⟩ : ∃ kn, V0 ⟨th, kd, rg, tk, vl⟩ = kn := ⟨_, rfl⟩
              obtain ⟨rn, hrn0⟩ : ∃ rn, V1 ⟨th, kd, rg, tk, vl⟩ = rn := ⟨_, rfl⟩
              rw [hkn0] at hkn
              rw [hrn0] at hrn
              dsimp only at hkn hrn h64
              obtain ⟨e1, hkn⟩ := hkn
              obtain ⟨e2, hrn⟩ := hrn
              subst e1 e2
              have hwk : IntKind.u64.wrap (kn : Int) = (kn : Int) := by rw [IntKind.wrap_u64]; omega
              have hwr : IntKind.u64.wrap (rn : Int) = (rn : Int) := by rw [IntKind.wrap_u64]; omega
              obtain ⟨A1, a1, rfl⟩ := h.own.form
              obtain ⟨A2, a2, rfl⟩ := (h.pull 1).own.form
              obtain ⟨A3, a3, rfl⟩ := (h.pull 2).own.form
              obtain ⟨A4, a4, rfl⟩ := (h.pull 3).own.form
              have HQN := Lib.hid (fun (q : ¬ th = (t : Int)) => (And.intro (HPN.out P0 V0 q) (And.intro (HPN.out P1 V1 q) (And.intro (HPN.out P2 V2 q) (HPN.out P3 V3 q)))))
              have HQY := Lib.hid (fun (q : th = (t : Int)) => (And.intro (HPY.out P0 V0 q) (And.intro (HPY.out P1 V1 q) (And.intro (HPY.out P2 V2 q) (HPY.out P3 V3 q)))))
              rw [hkn0, hrn0] at HQY
              clear HPN HPY hrt hkn0 hrn0
              have HQ5 := Lib.hid (rfl : pt l t k P0 V0 = pt l t k P0 V0)
              obtain ⟨L0, hL0⟩ : ∃ L, pt l t k P0 V0 = L := ⟨_, rfl⟩
              obtain ⟨L1, hL1⟩ : ∃ L, pt l t k P1 V1 = L := ⟨_, rfl⟩
              obtain ⟨L2, hL2⟩ : ∃ L, pt l t k P2 V2 = L := ⟨_, rfl⟩
              obtain ⟨L3, hL3⟩ : ∃ L, pt l t k P3 V3 = L := ⟨_, rfl⟩
              rw [hL0] at h hp0 HQN HQY ⊢
              rw [hL1] at h hp1 HQN HQY ⊢
              rw [hL2] at h hp2 HQN HQY ⊢
              rw [hL3] at h hp3 HQN HQY ⊢
              clear hL0 hL1 hL2 hL3 HQ5
              have h5 := h.alloc #[.int .i64 th, .int .i64 kn, .int .i64 rn, .int .u64 tk, .int .u64 vl] 36
              have b0 : _ = some (Value.int .i64 th) := cell_of_heap h5.blk 0
              have b1 : _ = some (Value.int .i64 ((kn : Nat) : Int)) := cell_of_heap h5.blk 1
              have h6 := h5.pull 1
              by_cases hth : th = (t : Int)
              · have hne : (th != (t : Int)) = false := by rw [bne_eq_false_iff_eq]; exact hth
                obtain ⟨q0, q1, q2, q3⟩ := HQY.out hth
                rw [P1_eq] at q1
                rw [P2_eq] at q2
                rw [P3_eq] at q3
                rw [if_pos (show P0 (kn : Int) = true from rfl)] at q0
                have HQ0 := Lib.hid q0
                have HNR := Lib.hid (fun w => rnm_ring w ⟨th, kn, rn, tk, vl⟩)
                have HNT := Lib.hid (fun w => rnm_tick w ⟨th, kn, rn, tk, vl⟩)
                have HNV := Lib.hid (fun w => rnm_val w ⟨th, kn, rn, tk, vl⟩)
                dsimp only [evV] at HNR HNT HNV
                have hnc := namesE_cases (kn : Int)
                generalize ringB (kn : Int) = br at *
                generalize tickB (kn : Int) = bt at *
                generalize valB (kn : Int) = bv at *
                clear q0 HQY HQN hth h h5
                rcases hnc with ⟨e1, e2, e3, _⟩ | ⟨e1, e2, e3, _⟩ | ⟨e1, e2, e3, _⟩ | ⟨e1, e2, e3, _⟩
                all_goals
                  subst e1 e2 e3
                  simp only [if_true, Bool.false_eq_true, if_false, List.append_nil] at q1 q2 q3
                  have HQ1 := Lib.hid q1
                  have HQ2 := Lib.hid q2
                  have HQ3 := Lib.hid q3
                  clear q1 q2 q3
                · go_wp2_with (at_builtin; refine wpList_push rfl _ _ _ rfl 34 (.int .u64 0) 1 8 Tryz.underlying46 u64_info rfl (by decide) (h6) rfl (by rw [World.size_alloc]; rfl) rfl (numsV_one [kn]) (by unfold maxLen; omega) (by omega) ?_; intro A5 c5 w6 h7; have f0 : _ = some (Value.int .i64 (th : Int)) := cell_of_heap (h7.pull 1).blk 0; have f1 : _ = some (Value.int .i64 ((kn : Nat) : Int)) := cell_of_heap (h7.pull 1).blk 1; have f2 : _ = some (Value.int .i64 ((rn : Nat) : Int)) := cell_of_heap (h7.pull 1).blk 2; have f3 : _ = some (Value.int .u64 ((tk : Nat) : Int)) := cell_of_heap (h7.pull 1).blk 3; have f4 : _ = some (Value.int .u64 ((vl : Nat) : Int)) := cell_of_heap (h7.pull 1).blk 4)
                  refine (HNR.out w6).mono ?_
                  rintro _ w7 ⟨rfl, x7⟩
                  have h8 := h7.ext x7
                  clear f0 f1 f2 f3 f4 x7
                  have f0 : _ = some (Value.int .i64 (th : Int)) := cell_of_heap (h8.pull 1).blk 0
                  have f1 : _ = some (Value.int .i64 ((kn : Nat) : Int)) := cell_of_heap (h8.pull 1).blk 1
                  have f2 : _ = some (Value.int .i64 ((rn : Nat) : Int)) := cell_of_heap (h8.pull 1).blk 2
                  have f3 : _ = some (Value.int .u64 ((tk : Nat) : Int)) := cell_of_heap (h8.pull 1).blk 3
                  have f4 : _ = some (Value.int .u64 ((vl : Nat) : Int)) := cell_of_heap (h8.pull 1).blk 4
                  go_wp2_with (at_builtin; refine wpList_push rfl _ _ _ rfl 34 (.int .u64 0) 1 8 Tryz.underlying46 u64_info rfl (by decide) (h8.pull 2) rfl rfl rfl (numsV_one [rn]) (by unfold maxLen; omega) (by omega) ?_; intro A6 c6 w8 h9; have g0 : _ = some (Value.int .i64 (th : Int)) := cell_of_heap (h9.pull 2).blk 0; have g1 : _ = some (Value.int .i64 ((kn : Nat) : Int)) := cell_of_heap (h9.pull 2).blk 1; have g2 : _ = some (Value.int .i64 ((rn : Nat) : Int)) := cell_of_heap (h9.pull 2).blk 2; have g3 : _ = some (Value.int .u64 ((tk : Nat) : Int)) := cell_of_heap (h9.pull 2).blk 3; have g4 : _ = some (Value.int .u64 ((vl : Nat) : Int)) := cell_of_heap (h9.pull 2).blk 4)
                  refine (HNT.out w8).mono ?_
                  rintro _ w9 ⟨rfl, x9⟩
                  have h10 := h9.ext x9
                  clear x9 g0 g1 g2 g3 g4
                  have g0 : _ = some (Value.int .i64 (th : Int)) := cell_of_heap (h10.pull 2).blk 0
                  have g1 : _ = some (Value.int .i64 ((kn : Nat) : Int)) := cell_of_heap (h10.pull 2).blk 1
                  have g2 : _ = some (Value.int .i64 ((rn : Nat) : Int)) := cell_of_heap (h10.pull 2).blk 2
                  have g3 : _ = some (Value.int .u64 ((tk : Nat) : Int)) := cell_of_heap (h10.pull 2).blk 3
                  have g4 : _ = some (Value.int .u64 ((vl : Nat) : Int)) := cell_of_heap (h10.pull 2).blk 4
                  go_wp2_with (at_builtin; refine wpList_push rfl _ _ _ rfl 34 (.int .u64 0) 1 8 Tryz.underlying46 u64_info rfl (by decide) (h10.pull 3) rfl rfl rfl (numsV_one [tk]) (by unfold maxLen; omega) (by omega) ?_; intro A7 c7 w10 h11; have k0 : _ = some (Value.int .i64 (th : Int)) := cell_of_heap (h11.pull 3).blk 0; have k1 : _ = some (Value.int .i64 ((kn : Nat) : Int)) := cell_of_heap (h11.pull 3).blk 1; have k2 : _ = some (Value.int .i64 ((rn : Nat) : Int)) := cell_of_heap (h11.pull 3).blk 2; have k3 : _ = some (Value.int .u64 ((tk : Nat) : Int)) := cell_of_heap (h11.pull 3).blk 3; have k4 : _ = some (Value.int .u64 ((vl : Nat) : Int)) := cell_of_heap (h11.pull 3).blk 4)
                  refine (HNV.out w10).mono ?_
                  rintro _ w11 ⟨rfl, x11⟩
                  have h12 := h11.ext x11
                  clear x11 k0 k1 k2 k3 k4
                  have h13 := ((((h12.pull 4).pull 4).drop.pull 1).pull 2).pull 3
                  go_wp2_with fail
                  refine ⟨⟨k + 1, _, _, _, _, by omega, rfl, rfl, rfl, rfl, by go_num, ?_⟩, by simp only [intOf]; omega⟩
                  simp only [HQ0.out, HQ1.out, HQ2.out, HQ3.out, numsV_append, List.length_append]
                  exact h13
                · go_wp2_with (at_builtin; refine wpList_push rfl _ _ _ rfl 34 (.int .u64 0) 1 8 Tryz.underlying46 u64_info rfl (by decide) (h6) rfl (by rw [World.size_alloc]; rfl) rfl (numsV_one [kn]) (by unfold maxLen; omega) (by omega) ?_; intro A5 c5 w6 h7; have f0 : _ = some (Value.int .i64 (th : Int)) := cell_of_heap (h7.pull 1).blk 0; have f1 : _ = some (Value.int .i64 ((kn : Nat) : Int)) := cell_of_heap (h7.pull 1).blk 1; have f2 : _ = some (Value.int .i64 ((rn : Nat) : Int)) := cell_of_heap (h7.pull 1).blk 2; have f3 : _ = some (Value.int .u64 ((tk : Nat) : Int)) := cell_of_heap (h7.pull 1).blk 3; have f4 : _ = some (Value.int .u64 ((vl : Nat) : Int)) := cell_of_heap (h7.pull 1).blk 4)
                  refine (HNR.out w6).mono ?_
                  rintro _ w7 ⟨rfl, x7⟩
                  have h8 := h7.ext x7
                  clear f0 f1 f2 f3 f4 x7
                  have f0 : _ = some (Value.int .i64 (th : Int)) := cell_of_heap (h8.pull 1).blk 0
                  have f1 : _ = some (Value.int .i64 ((kn : Nat) : Int)) := cell_of_heap (h8.pull 1).blk 1
                  have f2 : _ = some (Value.int .i64 ((rn : Nat) : Int)) := cell_of_heap (h8.pull 1).blk 2
                  have f3 : _ = some (Value.int .u64 ((tk : Nat) : Int)) := cell_of_heap (h8.pull 1).blk 3
                  have f4 : _ = some (Value.int .u64 ((vl : Nat) : Int)) := cell_of_heap (h8.pull 1).blk 4
                  go_wp2_with (at_builtin; refine wpList_push rfl _ _ _ rfl 34 (.int .u64 0) 1 8 Tryz.underlying46 u64_info rfl (by decide) (h8.pull 2) rfl rfl rfl (numsV_one [rn]) (by unfold maxLen; omega) (by omega) ?_; intro A6 c6 w8 h9; have g0 : _ = some (Value.int .i64 (th : Int)) := cell_of_heap (h9.pull 2).blk 0; have g1 : _ = some (Value.int .i64 ((kn : Nat) : Int)) := cell_of_heap (h9.pull 2).blk 1; have g2 : _ = some (Value.int .i64 ((rn : Nat) : Int)) := cell_of_heap (h9.pull 2).blk 2; have g3 : _ = some (Value.int .u64 ((tk : Nat) : Int)) := cell_of_heap (h9.pull 2).blk 3; have g4 : _ = some (Value.int .u64 ((vl : Nat) : Int)) := cell_of_heap (h9.pull 2).blk 4)
                  refine (HNT.out w8).mono ?_
                  rintro _ w9 ⟨rfl, x9⟩
                  have h10 := h9.ext x9
                  clear x9 g0 g1 g2 g3 g4
                  have g0 : _ = some (Value.int .i64 (th : Int)) := cell_of_heap (h10.pull 2).blk 0
                  have g1 : _ = some (Value.int .i64 ((kn : Nat) : Int)) := cell_of_heap (h10.pull 2).blk 1
                  have g2 : _ = some (Value.int .i64 ((rn : Nat) : Int)) := cell_of_heap (h10.pull 2).blk 2
                  have g3 : _ = some (Value.int .u64 ((tk : Nat) : Int)) := cell_of_heap (h10.pull 2).blk 3
                  have g4 : _ = some (Value.int .u64 ((vl : Nat) : Int)) := cell_of_heap (h10.pull 2).blk 4
                  have h11 := h10.pull 3
                  go_wp2_with fail
                  refine (HNV.out w9).mono ?_
                  rintro _ w11 ⟨rfl, x11⟩
                  have h12 := h11.ext x11
                  clear x11
                  have h13 := ((((h12.pull 4).pull 4).drop.pull 1).pull 2).pull 3
                  go_wp2_with fail
                  refine ⟨⟨k + 1, _, _, _, _, by omega, rfl, rfl, rfl, rfl, by go_num, ?_⟩, by simp only [intOf]; omega⟩
                  simp only [HQ0.out, HQ1.out, HQ2.out, HQ3.out, numsV_append, List.length_append]
                  exact h13
                · go_wp2_with (at_builtin; refine wpList_push rfl _ _ _ rfl 34 (.int .u64 0) 1 8 Tryz.underlying46 u64_info rfl (by decide) (h6) rfl (by rw [World.size_alloc]; rfl) rfl (numsV_one [kn]) (by unfold maxLen; omega) (by omega) ?_; intro A5 c5 w6 h7; have f0 : _ = some (Value.int .i64 (th : Int)) := cell_of_heap (h7.pull 1).blk 0; have f1 : _ = some (Value.int .i64 ((kn : Nat) : Int)) := cell_of_heap (h7.pull 1).blk 1; have f2 : _ = some (Value.int .i64 ((rn : Nat) : Int)) := cell_of_heap (h7.pull 1).blk 2; have f3 : _ = some (Value.int .u64 ((tk : Nat) : Int)) := cell_of_heap (h7.pull 1).blk 3; have f4 : _ = some (Value.int .u64 ((vl : Nat) : Int)) := cell_of_heap (h7.pull 1).blk 4)
                  refine (HNR.out w6).mono ?_
                  rintro _ w7 ⟨rfl, x7⟩
                  have h8 := h7.ext x7
                  clear f0 f1 f2 f3 f4 x7
                  have f0 : _ = some (Value.int .i64 (th : Int)) := cell_of_heap (h8.pull 1).blk 0
                  have f1 : _ = some (Value.int .i64 ((kn : Nat) : Int)) := cell_of_heap (h8.pull 1).blk 1
                  have f2 : _ = some (Value.int .i64 ((rn : Nat) : Int)) := cell_of_heap (h8.pull 1).blk 2
                  have f3 : _ = some (Value.int .u64 ((tk : Nat) : Int)) := cell_of_heap (h8.pull 1).blk 3
                  have f4 : _ = some (Value.int .u64 ((vl : Nat) : Int)) := cell_of_heap (h8.pull 1).blk 4
                  have h9 := h8.pull 2
                  go_wp2_with fail
                  refine (HNT.out w7).mono ?_
                  rintro _ w9 ⟨rfl, x9⟩
                  have h10 := h9.ext x9
                  clear x9
                  have g0 : _ = some (Value.int .i64 (th : Int)) := cell_of_heap (h10.pull 2).blk 0
                  have g1 : _ = some (Value.int .i64 ((kn : Nat) : Int)) := cell_of_heap (h10.pull 2).blk 1
                  have g2 : _ = some (Value.int .i64 ((rn : Nat) : Int)) := cell_of_heap (h10.pull 2).blk 2
                  have g3 : _ = some (Value.int .u64 ((tk : Nat) : Int)) := cell_of_heap (h10.pull 2).blk 3
                  have g4 : _ = some (Value.int .u64 ((vl : Nat) : Int)) := cell_of_heap (h10.pull 2).blk 4
                  have h11 := h10.pull 3
                  go_wp2_with fail
                  refine (HNV.out w9).mono ?_
                  rintro _ w11 ⟨rfl, x11⟩
                  have h12 := h11.ext x11
                  clear x11
                  have k0 : _ = some (Value.int .i64 (th : Int)) := cell_of_heap (h12.pull 3).blk 0
                  have k1 : _ = some (Value.int .i64 ((kn : Nat) : Int)) := cell_of_heap (h12.pull 3).blk 1
                  have k2 : _ = some (Value.int .i64 ((rn : Nat) : Int)) := cell_of_heap (h12.pull 3).blk 2
                  have k3 : _ = some (Value.int .u64 ((tk : Nat) : Int)) := cell_of_heap (h12.pull 3).blk 3
                  have k4 : _ = some (Value.int .u64 ((vl : Nat) : Int)) := cell_of_heap (h12.pull 3).blk 4
                  go_wp2_with (at_builtin; refine wpList_push rfl _ _ _ rfl 34 (.int .u64 0) 1 8 Tryz.underlying46 u64_info rfl (by decide) (h12.pull 4) rfl rfl rfl (numsV_one [vl]) (by unfold maxLen; omega) (by omega) ?_; intro A8 c8 w12 h13)
                  have h14 := (((h13.pull 4).drop.pull 1).pull 2).pull 3
                  go_roundw
                  case rel =>
                    refine ⟨k + 1, _, _, _, _, by omega, rfl, rfl, rfl, rfl, by go_num, ?_⟩
                    simp only [HQ0.out, HQ1.out, HQ2.out, HQ3.out, numsV_append, List.length_append]
                    exact h14
                  case measure => simp [intOf]; omega
                · go_wp2_with (at_builtin; refine wpList_push rfl _ _ _ rfl 34 (.int .u64 0) 1 8 Tryz.underlying46 u64_info rfl (by decide) (h6) rfl (by rw [World.size_alloc]; rfl) rfl (numsV_one [kn]) (by unfold maxLen; omega) (by omega) ?_; intro A5 c5 w6 h7; have f0 : _ = some (Value.int .i64 (th : Int)) := cell_of_heap (h7.pull 1).blk 0; have f1 : _ = some (Value.int .i64 ((kn : Nat) : Int)) := cell_of_heap (h7.pull 1).blk 1; have f2 : _ = some (Value.int .i64 ((rn : Nat) : Int)) := cell_of_heap (h7.pull 1).blk 2; have f3 : _ = some (Value.int .u64 ((tk : Nat) : Int)) := cell_of_heap (h7.pull 1).blk 3; have f4 : _ = some (Value.int .u64 ((vl : Nat) : Int)) := cell_of_heap (h7.pull 1).blk 4)
                  refine (HNR.out w6).mono ?_
                  rintro _ w7 ⟨rfl, x7⟩
                  have h8 := h7.ext x7
                  clear f0 f1 f2 f3 f4 x7
                  have f0 : _ = some (Value.int .i64 (th : Int)) := cell_of_heap (h8.pull 1).blk 0
                  have f1 : _ = some (Value.int .i64 ((kn : Nat) : Int)) := cell_of_heap (h8.pull 1).blk 1
                  have f2 : _ = some (Value.int .i64 ((rn : Nat) : Int)) := cell_of_heap (h8.pull 1).blk 2
                  have f3 : _ = some (Value.int .u64 ((tk : Nat) : Int)) := cell_of_heap (h8.pull 1).blk 3
                  have f4 : _ = some (Value.int .u64 ((vl : Nat) : Int)) := cell_of_heap (h8.pull 1).blk 4
                  have h9 := h8.pull 2
                  go_wp2_with fail
                  refine (HNT.out w7).mono ?_
                  rintro _ w9 ⟨rfl, x9⟩
                  have h10 := h9.ext x9
                  clear x9
                  have g0 : _ = some (Value.int .i64 (th : Int)) := cell_of_heap (h10.pull 2).blk 0
                  have g1 : _ = some (Value.int .i64 ((kn : Nat) : Int)) := cell_of_heap (h10.pull 2).blk 1
                  have g2 : _ = some (Value.int .i64 ((rn : Nat) : Int)) := cell_of_heap (h10.pull 2).blk 2
                  have g3 : _ = some (Value.int .u64 ((tk : Nat) : Int)) := cell_of_heap (h10.pull 2).blk 3
                  have g4 : _ = some (Value.int .u64 ((vl : Nat) : Int)) := cell_of_heap (h10.pull 2).blk 4
                  have h11 := h10.pull 3
                  go_wp2_with fail
                  refine (HNV.out w9).mono ?_
                  rintro _ w11 ⟨rfl, x11⟩
                  have h12 := h11.ext x11
                  clear x11
                  have h13 := ((((h12.pull 4).pull 4).drop.pull 1).pull 2).pull 3
                  go_wp2_with fail
                  refine ⟨⟨k + 1, _, _, _, _, by omega, rfl, rfl, rfl, rfl, by go_num, ?_⟩, by simp only [intOf]; omega⟩
                  simp only [HQ0.out, HQ1.out, HQ2.out, HQ3.out, numsV_append, List.length_append]
                  exact h13
              · have hne : (th != (t : Int)) = true := by rw [bne_iff_ne]; exact hth
                obtain ⟨q0, q1, q2, q3⟩ := HQN.out hth
                have HQ0 := Lib.hid q0
                have HQ1 := Lib.hid q1
                have HQ2 := Lib.hid q2
                have HQ3 := Lib.hid q3
                have h7 := h5.drop
                clear q0 q1 q2 q3 HQY HQN hth h h5 h6
                go_wp2_with fail
                refine ⟨⟨k + 1, _, _, _, _, by omega, rfl, rfl, rfl, rfl, by go_num, ?_⟩, by simp only [intOf]; omega⟩
                simp only [HQ0.out, HQ1.out, HQ2.out, HQ3.out]
                exact h7
            · obtain rfl : k = i := by omega
              have hkii : ¬ (k : Int) < (k : Int) := by omega
              have hpt : ∀ P V, pt l t k P V = part l (ofE l (t : Int)) P V := fun P V => by unfold pt; rw [← HN.out]; rfl
              have a0 := part_lt l (ofE l (t : Int)) P0 V0 HA.out (ofE_in l _) (fun e h _ => by have := right_kd h; omega)
              have a1 := part_lt l (ofE l (t : Int)) P1 V1 HA.out (ofE_in l _) (fun e h _ => by have := right_rg h; omega)
              have a2 := part_lt l (ofE l (t : Int)) P2 V2 HA.out (ofE_in l _) (fun e h _ => by have := h.2.2.2.2.2.2; show e.tk < _; omega)
              have a3 := part_lt l (ofE l (t : Int)) P3 V3 HA.out (ofE_in l _) (fun e h hv => hv)
              have HLY := Lib.hid (show layE l (ofE l (t : Int)) = rbl (pk (part l (ofE l (t : Int)) P0 V0)) ++ rbl (pk (part l (ofE l (t : Int)) P1 V1)) ++ dbl (part l (ofE l (t : Int)) P2 V2) ++ dbl (part l (ofE l (t : Int)) P3 V3) from rfl)
              have HLS := Lib.hid (lays_succ l t)
              have HLT := HLL.out t
              have hm0 : (part l (ofE l (t : Int)) P0 V0).length = (ofE l (t : Int)).length := by
                unfold part
                rw [List.length_map]
                exact congrArg List.length (List.filter_eq_self.2 (fun _ _ => rfl))
              simp only [hpt] at h hp0 hp1 hp2 hp3 ⊢
              clear hpt
              obtain ⟨m, hm⟩ : ∃ m, (ofE l (t : Int)).length = m := ⟨_, rfl⟩
              rw [hm] at hm0 HLS
              generalize layE l (ofE l (t : Int)) = LY at *
              generalize part l (ofE l (t : Int)) P0 V0 = L0 at *
              generalize part l (ofE l (t : Int)) P1 V1 = L1 at *
              generalize part l (ofE l (t : Int)) P2 V2 = L2 at *
              generalize part l (ofE l (t : Int)) P3 V3 = L3 at *
              clear hm
              subst hm0
              obtain ⟨A1, d1, rfl⟩ := h.own.form
              obtain ⟨A2', d2, rfl⟩ := (h.pull 1).own.form
              obtain ⟨A3, d3, rfl⟩ := (h.pull 2).own.form
              obtain ⟨A4, d4, rfl⟩ := (h.pull 3).own.form
              have hsz : s.size ≤ 10 + 4 * k + (40 * t + 52 * k) := by rw [HS.out, bytes_size, List.length_append]; omega
              by_cases hz : L0.length = 0
              · have HLS2 := HLS.out
                rw [if_pos hz, List.append_nil] at HLS2
                have HS2 : Hid (s = ⟨(HD ++ lays l (t + 1)).toArray⟩) := Lib.hid (by rw [HLS2]; exact HS.out)
                have hzi : ¬ (0 : Int) < (L0.length : Int) := by omega
                have hx := h.ends
                clear HLS HLS2 HLY a0 a1 a2 a3
                go_wp2_with fail
                exact ⟨⟨t + 1, _, by omega, rfl, by go_num, HS2, x.trans hx⟩, by simp only [intOf]; omega⟩
              · have HLS2 := HLS.out
                rw [if_neg hz] at HLS2
                have hzi : (0 : Int) < (L0.length : Int) := by omega
                have b0 := rbl_short L0 a0 (by omega)
                have b1 := rbl_short L1 a1 (by omega)
                have b2 := dbl_short L2 a2 (by omega)
                have b3 := dbl_short L3 a3 (by omega)
                have n0 := Own.nrow h.own rfl
                have n1 := Own.nrow (h.pull 1).own rfl
                have n2 := Own.nrow (h.pull 2).own rfl
                have n3 := Own.nrow (h.pull 3).own rfl
                have HP0 := Lib.hid (fun w' (x : Ext wr w') => rrunprint_any A1 d1 _ L0 w' rfl (by omega) (n0.ext x) a0)
                have HP1 := Lib.hid (fun w' (x : Ext wr w') => rrunprint_any A2' d2 _ L1 w' rfl (by omega) (n1.ext x) a1)
                have HP2 := Lib.hid (fun w' (x : Ext wr w') => drprint_any A3 d3 L2 w' (by omega) (n2.ext x) a2)
                have HP3 := Lib.hid (fun w' (x : Ext wr w') => drprint_any A4 d4 L3 w' (by omega) (n3.ext x) a3)
                have hx := h.ends
                have HX := Lib.hid (x.trans hx)
                clear n0 n1 n2 n3 a0 a1 a2 a3 h hx
                obtain ⟨s0, hs0⟩ : ∃ q : ByteArray, q = ⟨(rbl (pk L0)).toArray⟩ := ⟨_, rfl⟩
                obtain ⟨s1, hs1⟩ : ∃ q : ByteArray, q = ⟨(rbl (pk L1)).toArray⟩ := ⟨_, rfl⟩
                obtain ⟨s2, hs2⟩ : ∃ q : ByteArray, q = ⟨(dbl L2).toArray⟩ := ⟨_, rfl⟩
                obtain ⟨s3, hs3⟩ : ∃ q : ByteArray, q = ⟨(dbl L3).toArray⟩ := ⟨_, rfl⟩
                have z0 : s0.size = (rbl (pk L0)).length := by rw [hs0]; rfl
                have z1 : s1.size = (rbl (pk L1)).length := by rw [hs1]; rfl
                have z2 : s2.size = (dbl L2).length := by rw [hs2]; rfl
                have z3 : s3.size = (dbl L3).length := by rw [hs3]; rfl
                have y1 : (s0 ++ s1).size = s0.size + s1.size := ByteArray.size_append
                have y2 : (s0 ++ s1 ++ s2).size = (s0 ++ s1).size + s2.size := ByteArray.size_append
                have y3 : (s0 ++ s1 ++ s2 ++ s3).size = (s0 ++ s1 ++ s2).size + s3.size := ByteArray.size_append
                have HS2 : Hid (s ++ (s0 ++ s1 ++ s2 ++ s3) = ⟨(HD ++ lays l (t + 1)).toArray⟩) := Lib.hid (by
                  rw [HLS2, HLY.out, hs0, hs1, hs2, hs3, HS.out, bytes_append, bytes_append, bytes_append, bytes_append, List.append_assoc])
                rw [← hs0] at HP0
                rw [← hs1] at HP1
                have HP2 : Hid (∀ w', Ext wr w' → Calls Tryz.prog 25 #[.slice A3 L2.length d3] w' fun e w'' => e = .returned (.string s2) ∧ Ext w' w'') := Lib.hid (fun w' x => by rw [hs2]; exact HP2.out w' x)
                have HP3 : Hid (∀ w', Ext wr w' → Calls Tryz.prog 25 #[.slice A4 L3.length d4] w' fun e w'' => e = .returned (.string s3) ∧ Ext w' w'') := Lib.hid (fun w' x => by rw [hs3]; exact HP3.out w' x)
                rw [← z0] at b0
                rw [← z1] at b1
                rw [← z2] at b2
                rw [← z3] at b3
                have u1 : s0.size + s1.size ≤ 9223372036854775807 := by omega
                have u2 : (s0 ++ s1).size + s2.size ≤ 9223372036854775807 := by omega
                have u3 : (s0 ++ s1 ++ s2).size + s3.size ≤ 9223372036854775807 := by omega
                have u4 : s.size + (s0 ++ s1 ++ s2 ++ s3).size ≤ 9223372036854775807 := by omega
                clear hs0 hs1 hs2 hs3 z0 z1 z2 z3 HLS HLS2 HLY HS
                go_wp2_with fail
                refine (HP0.out wr (Mut.refl _ _)).mono ?_
                rintro _ w5 ⟨rfl, x5⟩
                go_wp2_with fail
                refine (HP1.out w5 x5).mono ?_
                rintro _ w6 ⟨rfl, x6⟩
                replace x6 := x5.trans x6
                go_wp2_with fail
                refine (HP2.out w6 x6).mono ?_
                rintro _ w7 ⟨rfl, x7⟩
                replace x7 := x6.trans x7
                go_wp2_with fail
                refine (HP3.out w7 x7).mono ?_
                rintro _ w8 ⟨rfl, x8⟩
                replace x8 := HX.out.trans (x7.trans x8)
                clear x5 x6 x7 HP0 HP1 HP2 HP3
                go_wp2_with fail
                exact ⟨⟨t + 1, _, by omega, rfl, by go_num, HS2, x8⟩, by simp only [intOf]; omega⟩
        · obtain rfl : t = 8 := by omega
          have ht8i : ¬ ((8 : Nat) : Int) < 8 := by omega
          go_wp2_with fail
          go_ret
          refine ⟨?_, x⟩
          rw [HS.out, HST.out]
          rfl
end Go.Proofs.YtjdglpngcdcneaaGreat
