/- Layer 4's laws: read. -/
import Derived.Test.YtpdhfmkaeemadaaRLaws4
namespace Go.Proofs.Ytpdhfmkaeemadaa
open Go.RowKit Go.WideShapes
set_option linter.unusedVariables false
set_option linter.unusedSimpArgs false
theorem nsame_t (A B : Option Addr) (ca cb : Nat) (L : List Nat) (m : Nat) (w : World) (hL : L.length = m) (hm : m ≤ 1000000) (ha : NRow w A L) (hb : NRow w B L) :
    Calls Try.prog 14 #[.slice A m ca, .slice B m cb] w fun e w' => e = .returned (.bool true) ∧ Ext w w' := by
  subst hL
  refine (nsame_any A B ca cb L L w ha hb (by omega) (by omega)).mono ?_
  rintro e w' ⟨rfl, x⟩
  exact ⟨by simp, x⟩
theorem take_one (l : List UInt8) (i : Nat) (h : i < l.length) : l.take (i + 1) = l.take i ++ [l.getD i 0] := by
  rw [List.take_succ_eq_append_getElem h, List.getD_eq_getElem?_getD, List.getElem?_eq_getElem h]; rfl
theorem ofNat_toNat (b : UInt8) (n : Nat) (h : b.toNat = n) : UInt8.ofNat n = b := by rw [← h]; simp
theorem vgo_canon (l : List UInt8) (a : Nat) : ∀ (f k n : Nat), (vgo l a f k n).2.1 = 0 → ∃ m, (0 < k → 0 < m) ∧ (vgo l a f k n).1 = n + m * 128 ^ k ∧ l.take (vgo l a f k n).2.2 = l.take (a + k) ++ vb m
  | 0, k, n, h => by simp [vgo] at h
  | f + 1, k, n, h => by
    rw [vgo] at h ⊢
    split at h
    · simp at h
    · rename_i h1
      rw [if_neg h1]
      split at h
      · simp at h
      · rename_i h2
        rw [if_neg h2]
        have hlt : a + k < l.length := by omega
        have h8 := UInt8.toNat_lt (l.getD (a + k) 0)
        split at h
        · rename_i h3
          rw [if_pos h3]
          refine ⟨(l.getD (a + k) 0).toNat, fun h0 => ?_, rfl, ?_⟩
          · rcases Nat.eq_zero_or_pos (l.getD (a + k) 0).toNat with h4 | h4
            · exact absurd (.inl ⟨h0, h4⟩) h2
            · exact h4
          · show l.take (a + k + 1) = _
            rw [take_one l _ hlt, vb_small h3, ofNat_toNat _ _ rfl]
        · rename_i h3
          rw [if_neg h3]
          obtain ⟨m, hm0, hm1, hm2⟩ := vgo_canon l a f (k + 1) _ h
          have hmp := hm0 (by omega)
          have hd : ((l.getD (a + k) 0).toNat - 128 + 128 * m) % 128 = (l.getD (a + k) 0).toNat - 128 := by omega
          have hq : ((l.getD (a + k) 0).toNat - 128 + 128 * m) / 128 = m := by omega
          refine ⟨(l.getD (a + k) 0).toNat - 128 + 128 * m, fun _ => by omega, ?_, ?_⟩
          · rw [hm1, Nat.add_mul, Nat.pow_succ, ← Nat.add_assoc, Nat.mul_comm 128 m, Nat.mul_assoc, Nat.mul_comm 128 (128 ^ k)]
          · have hv : vb ((l.getD (a + k) 0).toNat - 128 + 128 * m) = l.getD (a + k) 0 :: vb m := by
              rw [vb_big (by omega), hd, hq, ofNat_toNat (l.getD (a + k) 0) _ (by omega)]
            rw [hm2, hv, ← Nat.add_assoc, take_one l _ hlt, List.append_assoc]
            rfl
theorem vrd_canon (l : List UInt8) (a : Nat) (h : (vrd l a).2.1 = 0) : l.take (vrd l a).2.2 = l.take a ++ vb (vrd l a).1 := by
  obtain ⟨m, _, h1, h2⟩ := vgo_canon l a 10 0 0 h
  unfold vrd at *
  rw [h2, h1]
  simp
theorem rd2_canon (l : List UInt8) (a : Nat) (h : (rd2 l a).2.2.1 = 0) : l.take (rd2 l a).2.2.2 = l.take a ++ (vb (rd2 l a).1 ++ vb (rd2 l a).2.1) := by
  unfold rd2 at h ⊢
  split at h
  · rename_i h1
    rw [if_pos h1]
    have e1 := vrd_canon l a h1
    have e2 := vrd_canon l (vrd l a).2.2 h
    rw [show l.take (vrd l (vrd l a).2.2).2.2 = _ from e2, e1, List.append_assoc]
  · rename_i h1
    exact absurd h h1
theorem okR_more (q : List Rn) (v c : Nat) (hq : okR q) (hc : 1 ≤ c) (h : ¬ (expand q).getLast? = some v) : okR (q ++ [(v, c)]) := by
  rw [okR_snoc]
  refine ⟨hq, hc, ?_⟩
  rcases List.eq_nil_or_concat q with rfl | ⟨q', ⟨u, d⟩, rfl⟩
  · intro r hr; simp at hr
  · simp only [List.concat_eq_append] at hq h ⊢
    intro r hr
    rw [List.getLast?_concat] at hr
    cases hr
    have hd := ((okR_snoc q' u d).1 hq).2.1
    obtain ⟨d, rfl⟩ : ∃ k, d = k + 1 := ⟨d - 1, by omega⟩
    rw [expand_snoc, List.replicate_succ', ← List.append_assoc, List.getLast?_concat] at h
    intro hu; exact h (by rw [← hu])
theorem rls_canon (l : List UInt8) (most : Nat) (H : List UInt8) : ∀ (n a : Nat) (q : List Rn), okR q → a ≤ l.length → l.take a = H ++ rbs q → (rls l most n a (expand q)).2.1 = 0 →
    ∃ p, p.length = n ∧ okR (q ++ p) ∧ (rls l most n a (expand q)).1 = expand (q ++ p) ∧ l.take (rls l most n a (expand q)).2.2 = H ++ rbs (q ++ p)
  | 0, a, q, hq, ha, ht, h => ⟨[], rfl, by simpa using hq, by simp [rls], by simpa [rls] using ht⟩
  | n + 1, a, q, hq, ha, ht, h => by
    have hf := rd2_facts l a ha
    have hc := rd2_canon l a
    rw [rls] at h ⊢
    generalize rd2 l a = T at h hf hc ⊢
    obtain ⟨v, c, er, en⟩ := T
    simp only at h hf hc ⊢
    by_cases he : er = 0
    · rw [if_pos he] at h ⊢
      by_cases h1 : (expand q).getLast? = some v
      · rw [if_pos h1] at h; simp at h
      · rw [if_neg h1] at h ⊢
        by_cases h2 : most ≤ c + (expand q).length
        · rw [if_pos h2] at h; simp at h
        · rw [if_neg h2] at h ⊢
          rw [← expand_snoc] at h ⊢
          have hrb : rbs (q ++ [(v, c + 1)]) = rbs q ++ (vb v ++ vb c) := by simp [rbs]
          obtain ⟨p, hp1, hp2, hp3, hp4⟩ := rls_canon l most H n en (q ++ [(v, c + 1)]) (okR_more q v (c + 1) hq (by omega) h1) hf.2.2.2.2 (by rw [hc he, ht, hrb, List.append_assoc]) h
          refine ⟨(v, c + 1) :: p, by simp [hp1], ?_, ?_, ?_⟩
          · simpa using hp2
          · simpa using hp3
          · simpa using hp4
    · rw [if_neg he] at h; exact absurd h he
theorem rrl_canon (l : List UInt8) (most : Int) (h : (rrl l 0 most).2.1 = 0) : rbl (pk (rrl l 0 most).1) = l.take (rrl l 0 most).2.2 := by
  unfold rrl at h ⊢
  split at h
  · simp at h
  · rename_i h0
    rw [if_neg h0]
    split at h
    · rename_i h1
      rw [if_pos h1]
      have hf := vrd_facts l 0 (by omega)
      have hc := vrd_canon l 0 h1
      obtain ⟨p, hp1, hp2, hp3, hp4⟩ := rls_canon l most.toNat (vb (vrd l 0).1) (vrd l 0).1 (vrd l 0).2.2 [] trivial hf.2.2.2 (by rw [hc]; simp [rbs]) h
      rw [show expand [] = [] from rfl] at hp3 hp4
      rw [List.nil_append] at hp2 hp3 hp4
      rw [hp3, hp4, pk_expand p hp2, rbl, hp1]
    · rename_i h1
      exact absurd h h1
theorem allLt_rep (acc : List Nat) (v : Nat) (h : AllLt acc) (hv : v < 18446744073709551616) : ∀ c, AllLt (acc ++ List.replicate c v)
  | 0 => by simpa using h
  | c + 1 => by
    rw [List.replicate_succ', ← List.append_assoc]
    have ih := allLt_rep acc v h hv c
    intro i hi
    rw [List.getD_eq_getElem?_getD]
    rcases Nat.lt_or_ge i (acc ++ List.replicate c v).length with h1 | h1
    · rw [List.getElem?_append_left h1, ← List.getD_eq_getElem?_getD]; exact ih i h1
    · rw [List.getElem?_append_right h1]
      rw [List.length_append, List.length_singleton] at hi
      rw [show i - (acc ++ List.replicate c v).length = 0 by omega]; simpa using hv
theorem rls_facts (l : List UInt8) (most : Nat) : ∀ (n a : Nat) (acc : List Nat), AllLt acc → acc.length ≤ most → a ≤ l.length →
    AllLt (rls l most n a acc).1 ∧ (rls l most n a acc).1.length ≤ most ∧ (rls l most n a acc).2.1 ≤ 4 ∧ (rls l most n a acc).2.2 ≤ l.length
  | 0, a, acc, h1, h2, h3 => ⟨h1, h2, by simp [rls], h3⟩
  | n + 1, a, acc, h1, h2, h3 => by
    have hf := rd2_facts l a h3
    have hnil : AllLt [] := fun i hi => by simp at hi
    rw [rls]
    split
    · split
      · exact ⟨hnil, by simp, by simp, hf.2.2.2.2⟩
      · split
        · exact ⟨hnil, by simp, by simp, hf.2.2.2.2⟩
        · exact rls_facts l most n _ _ (allLt_rep acc _ h1 hf.1 _) (by rw [List.length_append, List.length_replicate]; omega) hf.2.2.2.2
    · exact ⟨hnil, by simp, Nat.le_trans hf.2.2.1 (by omega), hf.2.2.2.2⟩
theorem rrl_facts (l : List UInt8) (most : Int) (B : Nat) (hB : most ≤ B) : AllLt (rrl l 0 most).1 ∧ (rrl l 0 most).1.length ≤ B ∧ (rrl l 0 most).2.1 ≤ 4 ∧ (rrl l 0 most).2.2 ≤ l.length := by
  have hf := vrd_facts l 0 (by omega)
  have hnil : AllLt [] := fun i hi => by simp at hi
  unfold rrl
  split
  · exact ⟨hnil, by simp, by simp, by simp⟩
  · split
    · have := rls_facts l most.toNat (vrd l 0).1 (vrd l 0).2.2 [] hnil (by simp) hf.2.2.2
      exact ⟨this.1, Nat.le_trans this.2.1 (by omega), this.2.2.1, this.2.2.2⟩
    · exact ⟨hnil, by simp, Nat.le_trans hf.2.1 (by omega), hf.2.2.2⟩
set_option maxRecDepth 20000 in
set_option maxHeartbeats 4000000 in
theorem runsReads_walk (s : ByteArray) (most : Int) (hps : s.size ≤ 140737488351232) (hmo : -9223372036854775808 ≤ most ∧ most < 9223372036854775808) (w : World) :
    Calls Try.prog 8 #[.string s, .int .i64 most] w fun e w' => e = .returned (.bool true) ∧ Ext w w' := by
  by_cases h0 : s.size ≤ 500
  · by_cases h1 : most ≤ 2000
    · have HF := rrl_facts s.data.toList most 2000 h1
      have HC := rrl_canon s.data.toList most
      have HR := Lib.hid (fun (S : Nat → Prop) (W w : World) (b : Nat) (h : St S W w [rdT b s 0]) => runread_st h (by omega) (by omega) most (by omega))
      have HRR := Lib.hid (fun (S : Nat → Prop) (W w : World) (M : List Thing) (h : St S W w M) => rrunread_st (s := s) (a := 0) h (by omega) (by omega) most (by omega))
      generalize rrl s.data.toList 0 most = T at HF HC HR HRR
      obtain ⟨L, er, en⟩ := T
      simp only at HF HC HR HRR
      obtain ⟨hal, hLl, her, hen⟩ := HF
      rw [show s.data.toList.length = s.size by simp] at hen
      obtain ⟨q, hq⟩ : ∃ q, q = L.length := ⟨_, rfl⟩
      have HQ := Lib.hid hq
      rw [← hq] at hLl
      clear hq
      have HCC := Lib.hid HC
      clear HC
      go_enter Try.func8, Try.ntmps8
      go_wp2_with (first
        | (go_at_call 9; refine (rawake_any _).mono ?_; rintro e w1 ⟨rfl, x1⟩; have h := (St.start noB w).ext x1)
        | (go_at_call 17; refine (new_st h s).mono ?_; rintro e w2 ⟨rfl, h2⟩))
      refine (HR.out _ _ _ _ h2).mono ?_
      rintro e w3 ⟨v3, rfl, h3⟩
      unfold nlT at h3
      rw [← HQ.out] at h3
      obtain ⟨A3, c3, rfl⟩ := h3.own.form
      clear h h2
      go_wp2_with fail
      refine (HRR.out _ _ _ _ h3).mono ?_
      rintro e w4 ⟨v4, rfl, h4⟩
      unfold nlT at h4
      rw [← HQ.out] at h4
      obtain ⟨A4, c4, rfl⟩ := h4.own.form
      clear h3
      go_wp2_with fail
      have n3 := Own.nrow h4.swap.own HQ.out.symm
      have n4 := Own.nrow h4.own HQ.out.symm
      have rd4 := (h4.pull 2).rd
      by_cases he : er = 0
      · subst he
        have hc := HCC.out rfl
        have HP := Lib.hid (fun w (hr : NRow w A3 L) => runprint_any A3 c3 q L w HQ.out.symm (by omega) hr hal)
        rw [hc] at HP
        have ht : (⟨(s.data.toList.take en).toArray⟩ : ByteArray) = s.extract 0 en := by
          apply ByteArray.ext
          apply Array.toList_inj.1
          simp [List.extract_eq_take_drop]
        rw [ht] at HP
        clear hc ht HCC
        (refine wp_region_after (by kernel_rfl) (by kernel_rfl) ?_; (repeat (first | go_big_quiet_skip | (go_big_quiet_want; first | (fail; simp only [Act.put, List.setIfInBounds_toArray, List.set_cons_succ, List.set_cons_zero]; go_big_quiet_on) | (go_big_quiet_op; first | go_big_quiet_on | (apply Exists.intro; refine ⟨fun _ => ?_, ?_⟩; (· (first | (go_at_call 20; exact Calls.after_same (at_any (Rd.ext rd4 (After.ext _)))) | (go_at_call 16; exact Calls.after (HP.out _ (n3.ext (After.ext _)))) | (go_at_call 14; exact Calls.after (nsame_t A3 A4 c3 c4 L q _ HQ.out.symm (by omega) (n3.ext (After.ext _)) (n4.ext (After.ext _)))))); go_big_quiet_on))))); refine wpQuiet_nil ?_; rintro _ ⟨y, rfl⟩)
        go_wp2_with fail
        go_ret
        exact ⟨rfl, (h4.ext y.ext).ends⟩
      · have hne : ((er : Int) != 0) = true := by rw [bne_iff_ne]; omega
        clear he HCC
        (refine wp_region_after (by kernel_rfl) (by kernel_rfl) ?_; (repeat (first | go_big_quiet_skip | (go_big_quiet_want; first | (fail; simp only [Act.put, List.setIfInBounds_toArray, List.set_cons_succ, List.set_cons_zero]; go_big_quiet_on) | (go_big_quiet_op; first | go_big_quiet_on | (apply Exists.intro; refine ⟨fun _ => ?_, ?_⟩; (· (first | (go_at_call 20; exact Calls.after_same (at_any (Rd.ext rd4 (After.ext _)))) | (go_at_call 14; exact Calls.after (nsame_t A3 A4 c3 c4 L q _ HQ.out.symm (by omega) (n3.ext (After.ext _)) (n4.ext (After.ext _)))))); go_big_quiet_on))))); refine wpQuiet_nil ?_; rintro _ ⟨y, rfl⟩)
        go_wp2_with fail
        go_ret
        exact ⟨rfl, (h4.ext y.ext).ends⟩
    · go_enter Try.func8, Try.ntmps8
      go_wp2_with (go_at_call 9; refine (rawake_any _).mono ?_; rintro e w1 ⟨rfl, x1⟩)
      go_ret
      exact ⟨rfl, Mut.trans (by assumption) x1⟩
  · go_enter Try.func8, Try.ntmps8
    go_wp2_with (go_at_call 9; refine (rawake_any _).mono ?_; rintro e w1 ⟨rfl, x1⟩)
    go_ret
    exact ⟨rfl, Mut.trans (by assumption) x1⟩
end Go.Proofs.Ytpdhfmkaeemadaa
