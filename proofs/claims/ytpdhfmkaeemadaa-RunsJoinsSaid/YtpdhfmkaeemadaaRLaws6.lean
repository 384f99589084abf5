/- Layer 4's laws: two lists on end. -/
import Derived.Test.YtpdhfmkaeemadaaRLaws5
import Derived.StillTailTactics
namespace Go.Proofs.Ytpdhfmkaeemadaa
open Go.RowKit Go.WideShapes
set_option linter.unusedVariables false
set_option linter.unusedSimpArgs false
theorem okR_meet (u v c d : Nat) (Q : List Rn) (h2 : okR ((v, d) :: Q)) (hne : u ≠ v) : ∀ P : List Rn, okR (P ++ [(u, c)]) → okR (P ++ (u, c) :: (v, d) :: Q)
  | [], h => ⟨h.1, by rintro s ⟨⟩; exact hne, h2⟩
  | [r], h => ⟨h.1, by simpa using h.2.1, okR_meet u v c d Q h2 hne [] h.2.2⟩
  | r :: s :: P, h => ⟨h.1, by simpa using h.2.1, okR_meet u v c d Q h2 hne (s :: P) h.2.2⟩
theorem okR_same (u c d : Nat) (Q : List Rn) (h2 : okR ((u, d) :: Q)) : ∀ P : List Rn, okR (P ++ [(u, c)]) → okR (P ++ (u, c + d) :: Q)
  | [], h => ⟨by have := h.1; show 1 ≤ c + d; simp only at this; omega, h2.2.1, h2.2.2⟩
  | [r], h => ⟨h.1, by simpa using h.2.1, okR_same u c d Q h2 [] h.2.2⟩
  | r :: s :: P, h => ⟨h.1, by simpa using h.2.1, okR_same u c d Q h2 (s :: P) h.2.2⟩
theorem pk_meet (a b : List Nat) (P Q : List Rn) (u c v d : Nat) (ha : pk a = P ++ [(u, c)]) (hb : pk b = (v, d) :: Q) (hne : u ≠ v) : pk (a ++ b) = P ++ [(u, c)] ++ (v, d) :: Q := by
  have h1 := ok_pk a
  have h2 := ok_pk b
  have e1 := expand_pk a
  have e2 := expand_pk b
  rw [ha] at h1 e1
  rw [hb] at h2 e2
  have h3 := okR_meet u v c d Q h2 hne P h1
  have e3 : P ++ [(u, c)] ++ (v, d) :: Q = P ++ (u, c) :: (v, d) :: Q := by simp
  rw [e3, ← e1, ← e2, ← pk_expand _ h3]
  congr 1
  simp [expand]
theorem pk_same (a b : List Nat) (P Q : List Rn) (u c d : Nat) (ha : pk a = P ++ [(u, c)]) (hb : pk b = (u, d) :: Q) : pk (a ++ b) = P ++ [(u, c + d)] ++ Q := by
  have h1 := ok_pk a
  have h2 := ok_pk b
  have e1 := expand_pk a
  have e2 := expand_pk b
  rw [ha] at h1 e1
  rw [hb] at h2 e2
  have h3 := okR_same u c d Q h2 P h1
  have e3 : P ++ [(u, c + d)] ++ Q = P ++ (u, c + d) :: Q := by simp
  rw [e3, ← e1, ← e2, ← pk_expand _ h3]
  congr 1
  simp [expand]
  rw [← List.append_assoc, List.replicate_append_replicate]
theorem pk_last (a : List Nat) (k : Nat) (h : a.length = k + 1) : ∃ P c, pk a = P ++ [(a.getD k 0, c)] := by
  have h1 := pk_take a k (by omega)
  rw [← h, List.take_length] at h1
  obtain ⟨q, c, hq⟩ := packStep_last (pk (a.take k)) (a.getD k 0)
  exact ⟨q, c, by rw [h1, hq]⟩
theorem pk_first (b : List Nat) (h : 0 < b.length) : ∃ d Q, pk b = (b.getD 0 0, d) :: Q := by
  have e := expand_pk b
  have ok := ok_pk b
  generalize pk b = p at e ok
  cases p with
  | nil => rw [← e] at h; simp [expand] at h
  | cons r Q =>
    obtain ⟨v, d⟩ := r
    have hd := ok.1
    obtain ⟨d, rfl⟩ : ∃ k, d = k + 1 := ⟨d - 1, by simp only at hd; omega⟩
    refine ⟨d + 1, Q, ?_⟩
    have : b.getD 0 0 = v := by rw [← e]; simp [expand, List.replicate_succ]
    rw [this]
theorem run_from1 (A : Option Addr) (len c : Nat) (hl : 1 ≤ len) (hc : len ≤ c) (w : World) :
    (Instr.slice 30 (.slice A len c) (some (.int .i64 1)) none none).run Try.prog w = .ok (.slice (if c = 1 then A else A.map (·.add 2)) (len - 1) (c - 1)) w := by
  obtain ⟨i0, hi0, hz0, hz1, hz2⟩ := info_parts rr_info
  rw [run_slice_l (ht := Try.underlying30) (h0 := by omega) (h1 := by omega)]
  rw [show Try.prog.elem 30 = 37 from by kernel_rfl, run_sizeOf (h := hi0), show Try.prog.cellsOf 37 = 2 from by kernel_rfl]
  simp [Result.andThen, sliced]
/-- the runs behind the first one, as a slice -/
theorem tail_facts {w : World} {A : Option Addr} {n c : Nat} {r : Rn} {Q : List Rn} (h : Own w 37 2 (.slice A n c) n (runsV (r :: Q))) (hn : Q.length + 1 = n) :
    ∃ (A5 : Option Addr) (c5 : Nat), (∀ w, (Instr.slice 30 (.slice A n c) (some (.int .i64 1)) none none).run Try.prog w = .ok (.slice A5 Q.length c5) w) ∧ (A5 = none → Q.length = 0) ∧
      ∀ ad, A5 = some ad → ∀ j u, (runsV Q)[j]? = some u → w.cell? (ad.add j) = some u := by
  have hc : n ≤ c := by
    rcases h.2 with ⟨e, hn⟩ | ⟨g, cap, cur, e, _, hh, hnc, _⟩
    · omega
    · cases e; omega
  obtain ⟨g, c', e, _⟩ := h.slice (by omega)
  cases e
  refine ⟨_, c - 1, fun w => by rw [run_from1 (some ⟨g, 0, none⟩) n c (by omega) hc w, show n - 1 = Q.length by omega], ?_, ?_⟩
  · intro h5
    split at h5
    · cases h5
    · simp at h5
  · intro ad h5 j u hj
    have hl : j < Q.length * 2 := by
      rcases Nat.lt_or_ge j (runsV Q).length with h | h
      · rwa [runsV_len] at h
      · rw [List.getElem?_eq_none h] at hj; cases hj
    rw [if_neg (by omega)] at h5
    simp [Addr.add] at h5
    subst h5
    have hrr : RRow w (some ⟨g, 0, none⟩) (r :: Q) := Own.rrow h (by simp; omega)
    have := hrr.cells ⟨g, 0, none⟩ rfl (j + 2) u (by simpa [runsV] using hj)
    rw [add_plain] at this ⊢
    rw [← this]
    congr 2
    omega
theorem allLt_append (a b : List Nat) (ha : AllLt a) (hb : AllLt b) : AllLt (a ++ b) := by
  intro i hi
  rw [List.getD_eq_getElem?_getD]
  rcases Nat.lt_or_ge i a.length with h1 | h1
  · rw [List.getElem?_append_left h1, ← List.getD_eq_getElem?_getD]; exact ha i h1
  · rw [List.getElem?_append_right h1, ← List.getD_eq_getElem?_getD]
    rw [List.length_append] at hi
    exact hb _ (by omega)
set_option maxRecDepth 20000 in
set_option maxHeartbeats 8000000 in
theorem runsJoins_walk (A : Option Addr) (ca : Nat) (a : List Nat) (B : Option Addr) (cb : Nat) (b : List Nat) (w : World) (ra : ArgRow (repU .u64 18446744073709551616) 1 w A a.length a) (rb : ArgRow (repU .u64 18446744073709551616) 1 w B b.length b) (hpa : a.length ≤ 140737488351232) (hpb : b.length ≤ 140737488351232) :
    Calls Try.prog 6 #[.slice A a.length ca, .slice B b.length cb] w fun e w' => e = .returned (.bool true) ∧ Ext w w' := by
  have haa := ra.allLt
  have har := ra.nrow
  have hba := rb.allLt
  have hbr := rb.nrow
  obtain ⟨m, hm⟩ : ∃ m, m = a.length := ⟨_, rfl⟩
  obtain ⟨n, hn⟩ : ∃ n, n = b.length := ⟨_, rfl⟩
  rw [← hm] at hpa ⊢
  rw [← hn] at hpb ⊢
  have HM := Lib.hid hm.symm
  have HN := Lib.hid hn.symm
  clear hm hn ra rb
  by_cases h00 : m = 0
  · subst h00
    clear har hbr haa hba
    go_enter Try.func6, Try.ntmps6
    go_wp2_with (go_at_call 9; refine (rawake_any _).mono ?_; rintro e w1 ⟨rfl, x1⟩)
    go_ret
    exact ⟨rfl, Mut.trans (by assumption) x1⟩
  · have hm0 : ((m : Int) == 0) = false := by rw [beq_eq_false_iff_ne]; omega
    by_cases h01 : n = 0
    · subst h01
      clear har hbr haa hba
      go_enter Try.func6, Try.ntmps6
      go_wp2_with (go_at_call 9; refine (rawake_any _).mono ?_; rintro e w1 ⟨rfl, x1⟩)
      go_ret
      exact ⟨rfl, Mut.trans (by assumption) x1⟩
    · have hn0 : ((n : Int) == 0) = false := by rw [beq_eq_false_iff_ne]; omega
      by_cases h02 : m + n ≤ 500
      · go_enter Try.func6, Try.ntmps6
        go_wp2_with (go_at_call 9; refine (rawake_any _).mono ?_; rintro e w1 ⟨rfl, x1⟩; have h := (St.start noB w).ext x1)
        refine (rpack_st h A ca a m HM.out (by omega) (har.ext h.ends) haa).mono ?_
        rintro e w2 ⟨A2, p, c2, rfl, hp, h2⟩
        have HP := Lib.hid hp.symm
        clear hp h
        go_wp2_with fail
        refine (rpack_st h2 B cb b n HN.out (by omega) (hbr.ext h2.ends) hba).mono ?_
        rintro e w3 ⟨A3, q, c3, rfl, hq, h3⟩
        have HQ := Lib.hid hq.symm
        clear hq h2
        have h4 := h3.made 34 1 0 0 #[] (by omega) (by unfold maxLen; omega) rfl
        clear h3
        go_wp2_with (first
          | (at_builtin; refine wpList_pushAll rfl _ _ _ rfl 34 (.int .u64 0) 1 8 Try.underlying22 u64_info rfl (by decide) h4 h4 A m ca (numsV a) rfl rfl (by rw [numsV_len, Nat.mul_one]; exact HM.out) (by intro e; rw [← HM.out]; exact har.none e) (har.ext h4.ends).cells (numsV_one a) (by unfold maxLen; omega) (by omega) ?_; intro A5 c5 w5 h5 g5; have h6 : St noB w w5 [mlT (.slice A5 m c5) m a, ownT 37 2 (.slice A3 q c3) q (runsV (pk b)), ownT 37 2 (.slice A2 p c2) p (runsV (pk a))] := (by simpa [mlT] using h5); clear h5 g5 h4)
          | (at_builtin; refine wpList_pushAll rfl _ _ _ rfl 34 (.int .u64 0) 1 8 Try.underlying22 u64_info rfl (by decide) h6 h6 B n cb (numsV b) rfl rfl (by rw [numsV_len, Nat.mul_one]; exact HN.out) (by intro e; rw [← HN.out]; exact hbr.none e) (hbr.ext h6.ends).cells (numsV_one b) (by unfold maxLen; omega) (by omega) ?_; intro A6 c6 w6 h7 g7))
        rw [← numsV_append] at h7
        have hab : (a ++ b).length = m + n := by rw [List.length_append, HM.out, HN.out]
        refine (pack_st h7 A6 c6 (a ++ b) (m + n) hab (by omega) (Own.nrow h7.own hab) (allLt_append a b haa hba)).mono ?_
        rintro e w7 ⟨A7, r, c7, rfl, hr, h8⟩
        have HR := Lib.hid hr.symm
        have h9 := h8.swap.drop
        have h10 := h9.made 37 2 0 0 #[] (by omega) (by unfold maxLen; omega) rfl
        have hpb := pk_len_le a
        have hqb := pk_len_le b
        rw [HP.out, HM.out] at hpb
        rw [HQ.out, HN.out] at hqb
        clear h6 h7 g7 hab hr h8 h9
        go_wp2_with (at_builtin; refine wpList_pushAll rfl _ _ _ rfl 37 (.agg #[.int .u64 0, .int .u64 0]) 2 16 Try.underlying30 rr_info rfl (by decide) h10 h10 A2 p c2 (runsV (pk a)) rfl rfl (by rw [runsV_len, HP.out]) (by intro e; rw [← HP.out]; exact (Own.rrow (h10.pull 3).own HP.out).none e) (Own.rrow (h10.pull 3).own HP.out).cells (runsV_one _) (by unfold maxLen; omega) (by omega) ?_; intro A8 c8 w8 h11 g11)
        have h12 : St noB w w8 [ownT 37 2 (.slice A8 p c8) p (runsV (pk a)), ownT 36 2 (.slice A7 r c7) r (runsV (pk (a ++ b))), ownT 37 2 (.slice A3 q c3) q (runsV (pk b)), ownT 37 2 (.slice A2 p c2) p (runsV (pk a))] := by simpa using h11
        clear h10 h11 g11
        obtain ⟨k, rfl⟩ : ∃ k, m = k + 1 := ⟨m - 1, by omega⟩
        obtain ⟨P, c, hPa⟩ := pk_last a k HM.out
        obtain ⟨d, Q, hQb⟩ := pk_first b (by have := HN.out; omega)
        obtain ⟨b1, o1, hA, hca⟩ := har k (by have := HM.out; omega)
        obtain ⟨b2, o2, hB, hcb⟩ := hbr 0 (by have := HN.out; omega)
        subst hA hB
        rw [Nat.add_zero] at hcb
        have HPA := Lib.hid hPa
        have HQB := Lib.hid hQb
        generalize a.getD k 0 = u at hca HPA
        generalize b.getD 0 0 = v at hcb HQB
        have ka1 := fun y : After w8 => (After.ext y).cell (h12.ends.cell hca)
        have ka2 := fun y : After w8 => (After.ext y).cell (h12.ends.cell hcb)
        have hk1 : (k : Int) + 1 - 1 = (k : Int) := by omega
        have hkk : (k : Int) < (k : Int) + 1 := by omega
        have hk0 : (0 : Int) ≤ (k : Int) := by omega
        have hnn : (0 : Int) < (n : Int) := by omega
        have hp1 : p = P.length + 1 := by have := HP.out; rw [hPa] at this; simpa using this.symm
        have hq1 : q = Q.length + 1 := by have := HQ.out; rw [hQb] at this; simpa using this.symm
        have HP1 := Lib.hid hp1
        have HQ1 := Lib.hid hq1
        clear hPa hQb hp1 hq1 har hbr haa hba hca hcb h00 hm0 h01
        by_cases huv : u = v
        · subst huv
          have HX := Lib.hid (pk_same a b P Q u c d HPA.out HQB.out)
          (refine wp_region_after (by kernel_rfl) (by kernel_rfl) ?_; (repeat (first | go_big_quiet_skip | (go_big_quiet_want; first | (fail; simp only [Act.put, List.setIfInBounds_toArray, List.set_cons_succ, List.set_cons_zero]; go_big_quiet_on) | (go_big_quiet_op; first | go_big_quiet_on | (apply Exists.intro; refine ⟨fun _ => ?_, ?_⟩; (· (fail)); go_big_quiet_on))))); refine wpQuiet_nil ?_; rintro _ ⟨y, rfl⟩)
          have h13 := h12.ext y.ext
          clear ka1 ka2 h12
          generalize y.w = w9 at h13 ⊢
          rw [HPA.out, HQB.out] at h13
          obtain ⟨K, hK⟩ : ∃ K, K = P.length := ⟨_, rfl⟩
          have HK := Lib.hid hK
          obtain ⟨J, hJ⟩ : ∃ J, J = Q.length := ⟨_, rfl⟩
          have HJ := Lib.hid hJ
          obtain rfl : p = K + 1 := by have := HP1.out; omega
          obtain rfl : q = J + 1 := by have := HQ1.out; omega
          clear hK hJ
          have hcc : c ≤ 500 := by
            have := count_le_expand (P ++ [(u, c)]) (u, c) (by simp)
            rw [← HPA.out, expand_pk, HM.out] at this; omega
          have hdd : d ≤ 500 := by
            have := count_le_expand ((u, d) :: Q) (u, d) (by simp)
            rw [← HQB.out, expand_pk, HN.out] at this; omega
          obtain ⟨g8, c8', e8, _⟩ := h13.own.slice (by omega)
          cases e8
          obtain ⟨g3, c3', e3, _⟩ := (h13.pull 2).own.slice (by omega)
          cases e3
          have kw := h13.own.cell (K * 2 + 1) (by omega)
          rw [HK.out, runsV_get1 _ _ (by simp), last_get, ← HK.out] at kw
          have kf := h13.own.free (K * 2 + 1)
          have kq := (h13.pull 2).own.cell 1 (by omega)
          change _ = some (Value.int .u64 (d : Nat)) at kq
          simp only at kw
          have hK1 : (K : Int) + 1 - 1 = (K : Int) := by omega
          have hKK : (K : Int) < (K : Int) + 1 := by omega
          have hK0 : (0 : Int) ≤ (K : Int) := by omega
          have hJJ : (0 : Int) < (J : Int) + 1 := by omega
          have hwK : IntKind.i64.wrap (K : Int) = (K : Int) := IntWalk.i64_in _ (by omega)
          have hwK1 : IntKind.i64.wrap ((K : Int) + 1 - 1) = (K : Int) := by rw [hK1]; exact hwK
          have hws : IntKind.u64.wrap ((c : Int) + d) = (c : Int) + d := by rw [IntKind.wrap_u64]; omega
          go_wp2_with fail
          go_still_tail 14, (by kernel_rfl)
          change wpList _ _ _ _ _ w9.drew
          generalize hw10 : w9.drew = w10
          have h14 := h13.ext ((Mut.refl noB w9).drew)
          rw [hw10] at h14
          have h15 := h14.stored (K * 2 + 1) (.int .u64 ((c : Int) + d))
          have kf3 := h14.own.free (K * 2 + 1)
          have kw3 := h14.own.cell (K * 2 + 1) (by omega)
          rw [HK.out, runsV_get1 _ _ (by simp), last_get, ← HK.out] at kw3
          simp only at kw3
          have e15 : (runsV (P ++ [(u, c)])).set (K * 2 + 1) (.int .u64 ((c : Int) + d)) = runsV (P ++ [(u, c + d)]) := by
            rw [HK.out, runsV_append, runsV_append, List.set_append_right _ _ (by rw [runsV_len]; omega), runsV_len, Nat.add_sub_cancel_left]
            rfl
          rw [e15] at h15
          clear h13 h14 kw kf kq
          obtain ⟨A5, c5, hs5, hn5, hc5⟩ := tail_facts (h15.pull 2).own (by rw [HJ.out])
          rw [← HJ.out] at hs5 hn5
          have HC5 := Lib.hid hc5
          have HN5 := Lib.hid hn5
          clear hc5 hn5
          go_wp2_with (at_builtin; refine wpList_pushAll rfl _ _ _ rfl 37 (.agg #[.int .u64 0, .int .u64 0]) 2 16 Try.underlying30 rr_info rfl (by decide) h15 h15 A5 J c5 (runsV Q) rfl rfl (by rw [runsV_len, HJ.out]) HN5.out HC5.out (runsV_one _) (by unfold maxLen; omega) (by omega) ?_; intro A9 c9 w11 h16 g16)
          clear hs5 g16 h15
          rw [← runsV_append] at h16
          have hpq : (P ++ [(u, c + d)] ++ Q).length = K + 1 + J := by simp [HK.out, HJ.out]; omega
          rw [HX.out] at h16
          have hr : r = K + 1 + J := by rw [← HR.out, HX.out, hpq]
          subst hr
          refine (rsame_any A7 A9 c7 c9 (P ++ [(u, c + d)] ++ Q) (K + 1 + J) w11 hpq (by omega) (Own.rrow h16.swap.own hpq) (Own.rrow h16.own hpq)).mono ?_
          rintro e w12 ⟨rfl, x12⟩
          go_wp2_with fail
          go_ret
          exact ⟨rfl, (h16.ext x12).ends⟩
        · have hne : ((u : Int) == (v : Int)) = false := by rw [beq_eq_false_iff_ne]; omega
          have HX := Lib.hid (pk_meet a b P Q u c v d HPA.out HQB.out huv)
          clear huv
          (refine wp_region_after (by kernel_rfl) (by kernel_rfl) ?_; (repeat (first | go_big_quiet_skip | (go_big_quiet_want; first | (fail; simp only [Act.put, List.setIfInBounds_toArray, List.set_cons_succ, List.set_cons_zero]; go_big_quiet_on) | (go_big_quiet_op; first | go_big_quiet_on | (apply Exists.intro; refine ⟨fun _ => ?_, ?_⟩; (· (fail)); go_big_quiet_on))))); refine wpQuiet_nil ?_; rintro _ ⟨y, rfl⟩)
          have h13 := h12.ext y.ext
          clear ka1 ka2 h12
          generalize y.w = w9 at h13 ⊢
          go_wp2_with (at_builtin; refine wpList_pushAll rfl _ _ _ rfl 37 (.agg #[.int .u64 0, .int .u64 0]) 2 16 Try.underlying30 rr_info rfl (by decide) h13 h13 A3 q c3 (runsV (pk b)) rfl rfl (by rw [runsV_len, HQ.out]) (by intro e; rw [← HQ.out]; exact (Own.rrow (h13.pull 2).own HQ.out).none e) (Own.rrow (h13.pull 2).own HQ.out).cells (runsV_one _) (by unfold maxLen; omega) (by omega) ?_; intro A9 c9 w10 h14 g14)
          rw [← runsV_append] at h14
          have hpq : (pk a ++ pk b).length = p + q := by rw [List.length_append, HP.out, HQ.out]
          have hX : pk (a ++ b) = pk a ++ pk b := by rw [HX.out, HPA.out, HQB.out]
          rw [hX] at h14
          have hr : r = p + q := by rw [← HR.out, hX, hpq]
          subst hr
          clear g14 h13
          refine (rsame_any A7 A9 c7 c9 (pk a ++ pk b) (p + q) w10 hpq (by omega) (Own.rrow h14.swap.own hpq) (Own.rrow h14.own hpq)).mono ?_
          rintro e w11 ⟨rfl, x11⟩
          go_wp2_with fail
          go_ret
          exact ⟨rfl, (h14.ext x11).ends⟩
      · clear har hbr haa hba
        go_enter Try.func6, Try.ntmps6
        go_wp2_with (go_at_call 9; refine (rawake_any _).mono ?_; rintro e w1 ⟨rfl, x1⟩)
        go_ret
        exact ⟨rfl, Mut.trans (by assumption) x1⟩
section
variable {H : Type} {enc : TypeId × Value → H} {P : Program} {w : World} {base : Nat} {spare : Nat → Bool} {held : Bool}
/-- a slice that came in is as long as what it reads as -/
theorem arg_sized {t e : TypeId} {fuel : Nat} {A : Option Addr} {len cap : Nat} {x : DataW H} {y : List MemPlace} (ht : P.underlying t = some (.slice e)) (h : DataW.trod enc P w base spare held fuel t [.slice A len cap] = some (x, y)) :
    len = 0 ∨ ∃ el sp, x = .slice el sp ∧ el.length = len := by
  rcases Go.Deep.open_slice ht h with ⟨hcs, _⟩ | ⟨a, len', cap', m, n, D, Pl, hcs, hb, hl, hm, hmm, hx, hi⟩
  · simp at hcs
    exact .inl hcs.2.1
  · simp at hcs
    obtain ⟨rfl, rfl, rfl⟩ := hcs
    cases hx
    exact .inr ⟨_, _, rfl, by simp⟩
end
end Go.Proofs.Ytpdhfmkaeemadaa
