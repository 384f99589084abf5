/- Layer 4: the document's runs of a list. -/
import Derived.Test.YtpdhfmkaeemadaaRWalk
import Derived.Test.YtpdhfmkaeemadaaAfter
import Derived.Deep.QuietTactic
import Derived.BigQuiet
namespace Go.Proofs.Ytpdhfmkaeemadaa
open Go.RowKit Go.WideShapes
set_option linter.unusedVariables false
set_option linter.unusedSimpArgs false
theorem rr_info : (Try.prog.info? 37).map (fun i => (i.zero, i.size, i.bytes)) = some (some (.agg #[.int .u64 0, .int .u64 0]), 2, 16) := by kernel_rfl
theorem packStep_last (p : List Rn) (v : Nat) : ∃ q c, packStep p v = q ++ [(v, c)] := by
  rcases List.eq_nil_or_concat p with rfl | ⟨q, ⟨u, c⟩, rfl⟩
  · exact ⟨[], 1, rfl⟩
  · simp only [List.concat_eq_append]
    rw [packStep_snoc]
    split
    · rename_i h; exact ⟨q, c + 1, by rw [h]⟩
    · exact ⟨q ++ [(u, c)], 1, rfl⟩
section
variable {S : Nat → Prop} {W w : World} {M : List Thing}
set_option maxRecDepth 20000 in
set_option maxHeartbeats 4000000 in
theorem rpack_st (h : St S W w M) (A : Option Addr) (ca : Nat) (l : List Nat) (m : Nat) (hm : l.length = m) (hl : m ≤ 1000000) (hr : NRow w A l) (ha : AllLt l) :
    Calls Try.prog 13 #[.slice A m ca] w fun e w' => ∃ A' n c', e = .returned (.slice A' n c') ∧ n = (pk l).length ∧ St S W w' (ownT 37 2 (.slice A' n c') n (runsV (pk l)) :: M) := by
  have ha2 : ∀ i, i < m → l.getD i 0 < 18446744073709551616 := fun i hi => ha i (by omega)
  have hr2 : ∀ i, i < m → ∃ b off, A = some ⟨b, off, none⟩ ∧ w.cell? ⟨b, off + i, none⟩ = some (.int .u64 (l.getD i 0 : Nat)) := fun i hi => hr i (by omega)
  have HT : Hid (∀ i, i < m → pk (l.take (i + 1)) = packStep (pk (l.take i)) (l.getD i 0)) := Lib.hid (fun i hi => pk_take l i (by omega))
  have HX : Hid (∀ i, i ≤ m → (expand (pk (l.take i))).length = i) := Lib.hid (fun i hi => by rw [expand_pk, List.length_take]; omega)
  have HD := Lib.hid (show pk l = pk (l.take m) by rw [← hm, List.take_length])
  clear hm ha hr
  have h2 := h.nilOwn 37 2
  have g2 := (St.start noB w).nilOwn 37 2
  clear h
  go_enter Try.func13, Try.ntmps13
  go_wp2_with fail
  go_loopw [3, 4] (fun vo vi wr => ∃ (i n : Nat) (v : Value), i ≤ m ∧ vo = v ∧ vi = .int .i64 i ∧ Hid (n = (pk (l.take i)).length) ∧ n ≤ i ∧ St S W wr (ownT 37 2 v n (runsV (pk (l.take i))) :: M) ∧ St noB w wr [ownT 37 2 v n (runsV (pk (l.take i)))]) (fun _ vi _ => m - (intOf vi).toNat)
  case atStart => exact ⟨0, 0, _, by omega, rfl, rfl, Lib.hid rfl, by omega, h2, g2⟩
  case round =>
    clear h2 g2
    obtain ⟨i, n, v, hi, rfl, rfl, HN, hni, h, g⟩ := hrel
    by_cases hlt : i < m
    · obtain ⟨b, off, rfl, hc⟩ := hr2 i hlt
      have hc2 := g.ends.cell hc
      have HE := Lib.hid (HT.out i hlt)
      have hex := HX.out i hi
      have hb := ha2 i hlt
      have hli : (i : Int) < (m : Int) := by omega
      have hl0 : (0 : Int) ≤ (i : Int) := by omega
      cases i with
      | zero =>
        generalize l.getD 0 0 = x at hb hc hc2 HE
        have HC := Lib.hid hc
        have hn : n = 0 := HN.out
        subst hn
        obtain ⟨A3, c3, rfl⟩ := h.own.form
        have HP := Lib.hid (show pk (l.take (0 + 1)) = [] ++ [(x, 1)] by rw [HE.out]; rfl)
        rw [List.take_zero, show pk [] = ([] : List Rn) from rfl] at h g
        have h0 := h
        have g0 := g
        clear hc ha2 hr2 HT HX h g
        go_wp2_with fail
        (refine wp_region_after (by kernel_rfl) (by kernel_rfl) ?_; (repeat (first | go_big_quiet_skip | (go_big_quiet_want; first | (fail; simp only [Act.put, List.setIfInBounds_toArray, List.set_cons_succ, List.set_cons_zero]; go_big_quiet_on) | (go_big_quiet_op; first | go_big_quiet_on | (apply Exists.intro; refine ⟨fun _ => ?_, ?_⟩; (· (fail)); go_big_quiet_on))))); refine wpQuiet_nil ?_; rintro _ ⟨y, rfl⟩)
        have h := h0.ext y.ext
        have g := g0.ext y.ext
        have hc3 := g.ends.cell HC.out
        simp only [Nat.add_zero] at hc3
        clear h0 g0
        have HN2 : Hid (0 + 1 = (pk (l.take (0 + 1))).length) := Lib.hid (by rw [HP.out, List.length_append]; first | rfl | (rw [HK.out]; simp))
        clear HE HN
        go_wp2_with (at_builtin; refine wpList_push2 rfl _ _ _ rfl 37 (.agg #[.int .u64 0, .int .u64 0]) 2 16 Try.underlying30 rr_info rfl (by decide) h g rfl rfl rfl (by intro u hu; simp at hu; rcases hu with rfl | rfl <;> rfl) (by unfold maxLen; omega) (by omega) ?_; intro A' c' w6 h6 g6)
        have e6 : runsV (pk (l.take (0 + 1))) = runsV ([]: List Rn) ++ #[Value.int .u64 (x : Nat), Value.int .u64 1].toList := by rw [HP.out, runsV_append]; rfl
        rw [← e6] at h6 g6
        go_roundw
        case rel => first | exact ⟨0 + 1, 0 + 1, _, by omega, rfl, by go_num, HN2, by omega, h6, g6⟩ | ((repeat apply Exists.intro); exact ⟨⟨0 + 1, 0 + 1, _, by omega, rfl, by go_num, HN2, by omega, h6, g6⟩, rfl⟩)
        case measure => first | (simp [intOf]; done) | (simp [intOf]; omega)
      | succ j =>
        obtain ⟨b', off', e', hcy⟩ := hr2 j (by omega)
        cases e'
        have hcy2 := g.ends.cell hcy
        have hyb := ha2 j (by omega)
        have HEj := Lib.hid (HT.out j (by omega))
        obtain ⟨q, c, hq⟩ := packStep_last (pk (l.take j)) (l.getD j 0)
        rw [← HEj.out] at hq
        rw [hq] at HN HE hex h g
        generalize l.getD (j + 1) 0 = x at hb hc hc2 HE
        generalize l.getD j 0 = u at hcy hcy2 hyb HE HN hex h g
        have HC := Lib.hid hc
        clear hc hcy ha2 hr2 HT HX HEj hq
        have hn : n = q.length + 1 := by have := HN.out; simpa using this
        subst hn
        have hcc : c ≤ j + 1 := by have := count_le_expand (q ++ [(u, c)]) (u, c) (by simp); omega
        obtain ⟨g3, c3, hv, _⟩ := h.own.slice (by omega)
        subst hv
        have hji : (j : Int) < (m : Int) := by omega
        have hj0 : (0 : Int) ≤ (j : Int) := by omega
        have hj1 : ((j + 1 : Nat) : Int) - 1 = (j : Int) := by omega
        have ka1 := fun a : After wr => (After.ext a).cell hc2
        have ka2 := fun a : After wr => (After.ext a).cell hcy2
        have h0 := h
        have g0 := g
        clear h g hc2 hcy2
        go_wp2_with fail
        (refine wp_region_after (by kernel_rfl) (by kernel_rfl) ?_; (repeat (first | go_big_quiet_skip | (go_big_quiet_want; first | (fail; simp only [Act.put, List.setIfInBounds_toArray, List.set_cons_succ, List.set_cons_zero]; go_big_quiet_on) | (go_big_quiet_op; first | go_big_quiet_on | (apply Exists.intro; refine ⟨fun _ => ?_, ?_⟩; (· (fail)); go_big_quiet_on))))); refine wpQuiet_nil ?_; rintro _ ⟨y, rfl⟩)
        have h := h0.ext y.ext
        have g := g0.ext y.ext
        have hc3 := g.ends.cell HC.out
        clear ka1 ka2 h0 g0
        have k1 := h.own.cell (q.length * 2 + 1) (by omega)
        rw [runsV_get1 _ _ (by simp), last_get] at k1
        have kf := h.own.free (q.length * 2 + 1)
        have HS := Lib.hid (runsV_more q u c)
        have h5 := h.stored (q.length * 2 + 1) (.int .u64 ((c : Int) + 1))
        have g5 := g.stored (q.length * 2 + 1) (.int .u64 ((c : Int) + 1))
        rw [HS.out] at h5 g5
        have HQ := Lib.hid (packStep_snoc q u c x)
        obtain ⟨k, hk⟩ : ∃ k, k = q.length := ⟨_, rfl⟩
        rw [← hk] at k1 kf h5 g5 h g hni ⊢
        simp only at k1
        have HK := Lib.hid hk
        clear hk
        by_cases hux : u = x
        · subst hux
          have HP := Lib.hid (show pk (l.take (j + 1 + 1)) = q ++ [(u, c + 1)] by rw [HE.out, HQ.out, if_pos rfl])
          rw [← HP.out] at h5 g5
          have HN2 : Hid (k + 1 = (pk (l.take (j + 1 + 1))).length) := Lib.hid (by rw [HP.out, HK.out]; simp)
          clear HE HQ HN
          go_wp2_with fail
          go_roundw
          case rel => first | exact ⟨j + 1 + 1, k + 1, _, by omega, rfl, by go_num, HN2, by omega, h5, g5⟩ | ((repeat apply Exists.intro); exact ⟨⟨j + 1 + 1, k + 1, _, by omega, rfl, by go_num, HN2, by omega, h5, g5⟩, rfl⟩)
          case measure => simp [intOf]; omega
        · have hne : ((u : Int) == (x : Int)) = false := by rw [beq_eq_false_iff_ne]; omega
          have hne2 : ((x : Int) == (u : Int)) = false := by rw [beq_eq_false_iff_ne]; omega
          have HP := Lib.hid (show pk (l.take (j + 1 + 1)) = (q ++ [(u, c)]) ++ [(x, 1)] by rw [HE.out, HQ.out, if_neg hux])
          have HN2 : Hid ((k + 1) + 1 = (pk (l.take ((j + 1) + 1))).length) := Lib.hid (by rw [HP.out, List.length_append]; first | rfl | (rw [HK.out]; simp))
          clear HE HN
          go_wp2_with (at_builtin; refine wpList_push2 rfl _ _ _ rfl 37 (.agg #[.int .u64 0, .int .u64 0]) 2 16 Try.underlying30 rr_info rfl (by decide) h g rfl rfl rfl (by intro u hu; simp at hu; rcases hu with rfl | rfl <;> rfl) (by unfold maxLen; omega) (by omega) ?_; intro A' c' w6 h6 g6)
          have e6 : runsV (pk (l.take ((j + 1) + 1))) = runsV (q ++ [(u, c)]) ++ #[Value.int .u64 (x : Nat), Value.int .u64 1].toList := by rw [HP.out, runsV_append]; rfl
          rw [← e6] at h6 g6
          go_roundw
          case rel => first | exact ⟨(j + 1) + 1, (k + 1) + 1, _, by omega, rfl, by go_num, HN2, by omega, h6, g6⟩ | ((repeat apply Exists.intro); exact ⟨⟨(j + 1) + 1, (k + 1) + 1, _, by omega, rfl, by go_num, HN2, by omega, h6, g6⟩, rfl⟩)
          case measure => first | (simp [intOf]; done) | (simp [intOf]; omega)
    · obtain rfl : i = m := by omega
      obtain ⟨A3, c3, rfl⟩ := h.own.form
      go_wp2_with fail
      go_ret
      rw [HD.out]
      exact ⟨_, _, _, rfl, HN.out, h⟩
end
end Go.Proofs.Ytpdhfmkaeemadaa
