/- Layer 4: runs of a list. -/
import Derived.Test.YtpdhfmkaeemadaaRPure
import Derived.Test.YtpdhfmkaeemadaaVList
namespace Go.Proofs.Ytpdhfmkaeemadaa
open Go.RowKit Go.WideShapes
set_option linter.unusedVariables false
set_option linter.unusedSimpArgs false
def runsV (p : List Rn) : List Value := p.flatMap fun r => [.int .u64 r.1, .int .u64 r.2]
theorem runsV_len (p : List Rn) : (runsV p).length = p.length * 2 := by
  induction p with
  | nil => rfl
  | cons r p ih => simp only [runsV, List.flatMap_cons, List.length_append, List.length_cons, List.length_nil] at ih ⊢; omega
theorem runsV_append (p q : List Rn) : runsV (p ++ q) = runsV p ++ runsV q := by simp [runsV]
theorem runsV_one (p : List Rn) : ∀ u ∈ runsV p, u.oneCell' = true := by
  intro u hu; simp only [runsV, List.mem_flatMap] at hu; obtain ⟨r, _, h⟩ := hu; simp at h; rcases h with rfl | rfl <;> rfl
theorem runsV_get0 (p : List Rn) (i : Nat) (h : i < p.length) : (runsV p)[i * 2]? = some (.int .u64 ((p.getD i (0, 0)).1 : Nat)) := by
  induction p generalizing i with
  | nil => simp at h
  | cons r p ih =>
    cases i with
    | zero => rfl
    | succ i =>
      have := ih i (by simpa using h)
      rw [show (i + 1) * 2 = i * 2 + 1 + 1 by omega]
      simpa [runsV] using this
theorem runsV_get1 (p : List Rn) (i : Nat) (h : i < p.length) : (runsV p)[i * 2 + 1]? = some (.int .u64 ((p.getD i (0, 0)).2 : Nat)) := by
  induction p generalizing i with
  | nil => simp at h
  | cons r p ih =>
    cases i with
    | zero => rfl
    | succ i =>
      have := ih i (by simpa using h)
      rw [show (i + 1) * 2 + 1 = i * 2 + 1 + 1 + 1 by omega]
      simpa [runsV] using this
theorem runsV_more (q : List Rn) (u c : Nat) : (runsV (q ++ [(u, c)])).set (q.length * 2 + 1) (.int .u64 ((c : Int) + 1)) = runsV (q ++ [(u, c + 1)]) := by
  rw [runsV_append, runsV_append, List.set_append_right _ _ (by rw [runsV_len]; omega), runsV_len, Nat.add_sub_cancel_left]
  rfl
theorem last_get (q : List Rn) (r : Rn) : (q ++ [r]).getD q.length (0, 0) = r := by simp
theorem r_info : (Try.prog.info? 36).map (fun i => (i.zero, i.size, i.bytes)) = some (some (.agg #[.int .u64 0, .int .u64 0]), 2, 16) := by kernel_rfl
section
variable {S : Nat → Prop} {W w : World} {M : List Thing}
set_option maxRecDepth 20000 in
set_option maxHeartbeats 4000000 in
theorem pack_st (h : St S W w M) (A : Option Addr) (ca : Nat) (l : List Nat) (m : Nat) (hm : l.length = m) (hl : m ≤ 1000000) (hr : NRow w A l) (ha : AllLt l) :
    Calls Try.prog 10 #[.slice A m ca] w fun e w' => ∃ A' n c', e = .returned (.slice A' n c') ∧ n = (pk l).length ∧ St S W w' (ownT 36 2 (.slice A' n c') n (runsV (pk l)) :: M) := by
  have ha2 : ∀ i, i < m → l.getD i 0 < 18446744073709551616 := fun i hi => ha i (by omega)
  have hr2 : ∀ i, i < m → ∃ b off, A = some ⟨b, off, none⟩ ∧ w.cell? ⟨b, off + i, none⟩ = some (.int .u64 (l.getD i 0 : Nat)) := fun i hi => hr i (by omega)
  have HT : Hid (∀ i, i < m → pk (l.take (i + 1)) = packStep (pk (l.take i)) (l.getD i 0)) := Lib.hid (fun i hi => pk_take l i (by omega))
  have HX : Hid (∀ i, i ≤ m → (expand (pk (l.take i))).length = i) := Lib.hid (fun i hi => by rw [expand_pk, List.length_take]; omega)
  have HD := Lib.hid (show pk l = pk (l.take m) by rw [← hm, List.take_length])
  clear hm ha hr
  have h2 := h.nilOwn 36 2
  have g2 := (St.start noB w).nilOwn 36 2
  clear h
  go_enter Try.func10, Try.ntmps10
  go_wp2_with fail
  go_loopw [2, 8] (fun vo vi wr => ∃ (i n : Nat) (v : Value), i ≤ m ∧ vo = v ∧ vi = .int .i64 i ∧ Hid (n = (pk (l.take i)).length) ∧ n ≤ i ∧ St S W wr (ownT 36 2 v n (runsV (pk (l.take i))) :: M) ∧ St noB w wr [ownT 36 2 v n (runsV (pk (l.take i)))]) (fun _ vi _ => m - (intOf vi).toNat)
  case atStart => exact ⟨0, 0, _, by omega, rfl, rfl, Lib.hid rfl, by omega, h2, g2⟩
  case round =>
    clear h2 g2
    obtain ⟨i, n, v, hi, rfl, rfl, HN, hni, h, g⟩ := hrel
    by_cases hlt : i < m
    · obtain ⟨b, off, rfl, hc⟩ := hr2 i hlt
      have hc2 := g.ends.cell hc
      have hb := ha2 i hlt
      have HE := Lib.hid (HT.out i hlt)
      have hex := HX.out i hi
      generalize l.getD i 0 = x at hb hc hc2 HE
      have HC := Lib.hid hc
      clear hc ha2 hr2 HT HX
      generalize pk (l.take i) = p at HE HN hex h g
      rcases List.eq_nil_or_concat p with rfl | ⟨q, ⟨u, c⟩, rfl⟩
      · have hn : n = 0 := HN.out
        subst hn
        obtain ⟨A3, c3, rfl⟩ := h.own.form
        have HP := Lib.hid (show pk (l.take (i + 1)) = [] ++ [(x, 1)] by rw [HE.out]; rfl)
        have HN2 : Hid (0 + 1 = (pk (l.take (i + 1))).length) := Lib.hid (by rw [HP.out, List.length_append]; first | rfl | (rw [HK.out]; simp))
        clear HE HN
        go_wp2_with (at_builtin; refine wpList_push2 rfl _ _ _ rfl 36 (.agg #[.int .u64 0, .int .u64 0]) 2 16 Try.underlying24 r_info rfl (by decide) h g rfl rfl rfl (by intro u hu; simp at hu; rcases hu with rfl | rfl <;> rfl) (by unfold maxLen; omega) (by omega) ?_; intro A' c' w6 h6 g6)
        have e6 : runsV (pk (l.take (i + 1))) = runsV ([]: List Rn) ++ #[Value.int .u64 (x : Nat), Value.int .u64 1].toList := by rw [HP.out, runsV_append]; rfl
        rw [← e6] at h6 g6
        go_roundw
        case rel => first | exact ⟨i + 1, 0 + 1, _, by omega, rfl, by go_num, HN2, by omega, h6, g6⟩ | ((repeat apply Exists.intro); exact ⟨⟨i + 1, 0 + 1, _, by omega, rfl, by go_num, HN2, by omega, h6, g6⟩, rfl⟩)
        case measure => simp [intOf]; omega
      · simp only [List.concat_eq_append] at HE HN hex h g
        have hn : n = q.length + 1 := by have := HN.out; simpa using this
        subst hn
        have hcc : c ≤ i := by have := count_le_expand (q ++ [(u, c)]) (u, c) (by simp); omega
        obtain ⟨g3, c3, hv, _⟩ := h.own.slice (by omega)
        subst hv
        have k0 := h.own.cell (q.length * 2) (by omega)
        rw [runsV_get0 _ _ (by simp), last_get] at k0
        have k1 := h.own.cell (q.length * 2 + 1) (by omega)
        rw [runsV_get1 _ _ (by simp), last_get] at k1
        have kf := h.own.free (q.length * 2 + 1)
        have HS := Lib.hid (runsV_more q u c)
        have h5 := h.stored (q.length * 2 + 1) (.int .u64 ((c : Int) + 1))
        have g5 := g.stored (q.length * 2 + 1) (.int .u64 ((c : Int) + 1))
        rw [HS.out] at h5 g5
        have HQ := Lib.hid (packStep_snoc q u c x)
        obtain ⟨k, hk⟩ : ∃ k, k = q.length := ⟨_, rfl⟩
        rw [← hk] at k0 k1 kf h5 g5 h g hni ⊢
        simp only at k0 k1
        have HK := Lib.hid hk
        clear hk
        by_cases hux : u = x
        · subst hux
          have HP := Lib.hid (show pk (l.take (i + 1)) = q ++ [(u, c + 1)] by rw [HE.out, HQ.out, if_pos rfl])
          rw [← HP.out] at h5 g5
          have HN2 : Hid (k + 1 = (pk (l.take (i + 1))).length) := Lib.hid (by rw [HP.out, HK.out]; simp)
          clear HE HQ HN
          go_wp2_with fail
          go_roundw
          case rel => first | exact ⟨i + 1, k + 1, _, by omega, rfl, by go_num, HN2, by omega, h5, g5⟩ | ((repeat apply Exists.intro); exact ⟨⟨i + 1, k + 1, _, by omega, rfl, by go_num, HN2, by omega, h5, g5⟩, rfl⟩)
          case measure => simp [intOf]; omega
        · have hne : ((u : Int) == (x : Int)) = false := by rw [beq_eq_false_iff_ne]; omega
          have HP := Lib.hid (show pk (l.take (i + 1)) = (q ++ [(u, c)]) ++ [(x, 1)] by rw [HE.out, HQ.out, if_neg hux])
          have HN2 : Hid ((k + 1) + 1 = (pk (l.take (i + 1))).length) := Lib.hid (by rw [HP.out, List.length_append]; first | rfl | (rw [HK.out]; simp))
          clear HE HN
          go_wp2_with (at_builtin; refine wpList_push2 rfl _ _ _ rfl 36 (.agg #[.int .u64 0, .int .u64 0]) 2 16 Try.underlying24 r_info rfl (by decide) h g rfl rfl rfl (by intro u hu; simp at hu; rcases hu with rfl | rfl <;> rfl) (by unfold maxLen; omega) (by omega) ?_; intro A' c' w6 h6 g6)
          have e6 : runsV (pk (l.take (i + 1))) = runsV (q ++ [(u, c)]) ++ #[Value.int .u64 (x : Nat), Value.int .u64 1].toList := by rw [HP.out, runsV_append]; rfl
          rw [← e6] at h6 g6
          go_roundw
          case rel => first | exact ⟨i + 1, (k + 1) + 1, _, by omega, rfl, by go_num, HN2, by omega, h6, g6⟩ | ((repeat apply Exists.intro); exact ⟨⟨i + 1, (k + 1) + 1, _, by omega, rfl, by go_num, HN2, by omega, h6, g6⟩, rfl⟩)
          case measure => simp [intOf]; omega
    · obtain rfl : i = m := by omega
      obtain ⟨A3, c3, rfl⟩ := h.own.form
      go_wp2_with fail
      go_ret
      rw [HD.out]
      exact ⟨_, _, _, rfl, HN.out, h⟩
end
end Go.Proofs.Ytpdhfmkaeemadaa
