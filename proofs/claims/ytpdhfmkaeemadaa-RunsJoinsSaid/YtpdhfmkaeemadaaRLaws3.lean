/- Layer 4's laws: how many runs. -/
import Derived.Test.YtpdhfmkaeemadaaRLaws2
namespace Go.Proofs.Ytpdhfmkaeemadaa
open Go.RowKit Go.WideShapes
set_option linter.unusedVariables false
set_option linter.unusedSimpArgs false
/-- runs of the first i, one at least -/
def few (l : List Nat) (i : Nat) : Nat := if i = 0 then 1 else (pk (l.take i)).length
theorem few_zero (l : List Nat) : few l 0 = 1 := rfl
theorem few_one (l : List Nat) (h : 0 < l.length) : few l (0 + 1) = 1 := by
  unfold few
  rw [if_neg (by omega), pk_take l 0 h, List.take_zero]
  rfl
theorem few_step (l : List Nat) (j : Nat) (h : j + 1 < l.length) : few l (j + 1 + 1) = if l.getD (j + 1) 0 = l.getD j 0 then few l (j + 1) else few l (j + 1) + 1 := by
  have e1 : few l (j + 1 + 1) = (pk (l.take (j + 1 + 1))).length := if_neg (by omega)
  have e2 : few l (j + 1) = (pk (l.take (j + 1))).length := if_neg (by omega)
  rw [e1, e2, pk_take l (j + 1) h]
  obtain ⟨q, c, hq⟩ := packStep_last (pk (l.take j)) (l.getD j 0)
  rw [← pk_take l j (by omega)] at hq
  rw [hq, packStep_snoc]
  by_cases e : l.getD j 0 = l.getD (j + 1) 0
  · rw [if_pos e, if_pos e.symm]; simp
  · rw [if_neg e, if_neg (fun h => e h.symm)]; simp
theorem few_le (l : List Nat) (i : Nat) (hi : i ≤ l.length) : few l i ≤ i + 1 := by
  unfold few
  split
  · omega
  · have := pk_len_le (l.take i)
    rw [List.length_take] at this; omega
theorem expand_take (p : List Rn) (i : Nat) (h : i < p.length) : (expand (p.take (i + 1))).length = (expand (p.take i)).length + (p.getD i (0, 0)).2 := by
  have e : p.take (i + 1) = p.take i ++ [((p.getD i (0, 0)).1, (p.getD i (0, 0)).2)] := by
    rw [List.take_succ_eq_append_getElem h, List.getD_eq_getElem?_getD, List.getElem?_eq_getElem h]; rfl
  rw [e, expand_len_snoc]
theorem expand_take_le (p : List Rn) (i : Nat) : (expand (p.take i)).length ≤ (expand p).length := by
  have : (expand p).length = (expand (p.take i)).length + (expand (p.drop i)).length := by
    have e : p = p.take i ++ p.drop i := (List.take_append_drop i p).symm
    conv => lhs; rw [e]
    simp only [expand, List.flatMap_append, List.length_append]
  omega
set_option maxRecDepth 20000 in
set_option maxHeartbeats 4000000 in
theorem runsFew_walk (A : Option Addr) (ca : Nat) (l : List Nat) (w : World) (ra : ArgRow (repU .u64 18446744073709551616) 1 w A l.length l) (hpa : l.length ≤ 9223372036854775807) :
    Calls Try.prog 5 #[.slice A l.length ca] w fun e w' => e = .returned (.bool true) ∧ Ext w w' := by
  have ha := ra.allLt
  have hr := ra.nrow
  obtain ⟨m, hm⟩ : ∃ m, m = l.length := ⟨_, rfl⟩
  rw [← hm] at hpa ⊢
  have HM := Lib.hid hm
  clear hm ra
  by_cases h00 : m = 0
  · subst h00
    clear hr ha
    go_enter Try.func5, Try.ntmps5
    go_wp2_with (go_at_call 9; refine (rawake_any _).mono ?_; rintro e w1 ⟨rfl, x1⟩)
    go_ret
    exact ⟨rfl, Mut.trans (by assumption) x1⟩
  · have hm0 : ((m : Int) == 0) = false := by rw [beq_eq_false_iff_ne]; omega
    by_cases h0 : m ≤ 500
    · have hr2 : ∀ i, i < m → ∃ b off, A = some ⟨b, off, none⟩ ∧ w.cell? ⟨b, off + i, none⟩ = some (.int .u64 (l.getD i 0 : Nat)) := fun i hi => hr i (by have := HM.out; omega)
      have ha2 : ∀ i, i < m → l.getD i 0 < 18446744073709551616 := fun i hi => ha i (by have := HM.out; omega)
      have HF : Hid (∀ j, j + 1 < m → few l (j + 1 + 1) = if l.getD (j + 1) 0 = l.getD j 0 then few l (j + 1) else few l (j + 1) + 1) := Lib.hid (fun j hj => few_step l j (by have := HM.out; omega))
      have HF1 : Hid (few l (0 + 1) = 1) := Lib.hid (few_one l (by have := HM.out; omega))
      have HFL : Hid (∀ i, i ≤ m → few l i ≤ i + 1) := Lib.hid (fun i hi => few_le l i (by have := HM.out; omega))
      go_enter Try.func5, Try.ntmps5
      go_wp2_with (go_at_call 9; refine (rawake_any _).mono ?_; rintro e w1 ⟨rfl, x1⟩)
      go_loopw [3, 24] (fun vn vi wr => ∃ (i n : Nat), i ≤ m ∧ vn = .int .i64 n ∧ vi = .int .i64 i ∧ Hid (n = few l i) ∧ n ≤ 501 ∧ Ext w wr) (fun _ vi _ => m - (intOf vi).toNat)
      case atStart => exact ⟨0, 1, by omega, rfl, rfl, Lib.hid rfl, by omega, x1⟩
      case round =>
        clear x1
        obtain ⟨i, n, hi, rfl, rfl, HN, hn, hx⟩ := hrel
        by_cases hlt : i < m
        · obtain ⟨b, off, rfl, hc⟩ := hr2 i hlt
          have hc2 := hx.cell hc
          have hli : (i : Int) < (m : Int) := by omega
          have hl0 : (0 : Int) ≤ (i : Int) := by omega
          cases i with
          | zero =>
            have HN2 : Hid (n = few l (0 + 1)) := Lib.hid (by rw [HF1.out, HN.out]; rfl)
            clear hc hc2 hr2 ha2
            go_wp2_with fail
            (refine wp_region_after (by kernel_rfl) (by kernel_rfl) ?_; (repeat (first | go_big_quiet_skip | (go_big_quiet_want; first | (fail; simp only [Act.put, List.setIfInBounds_toArray, List.set_cons_succ, List.set_cons_zero]; go_big_quiet_on) | (go_big_quiet_op; first | go_big_quiet_on | (apply Exists.intro; refine ⟨fun _ => ?_, ?_⟩; (· (fail)); go_big_quiet_on))))); refine wpQuiet_nil ?_; rintro _ ⟨y, rfl⟩)
            have hx2 := Mut.trans hx y.ext
            go_wp2_with fail
            go_roundw
            case rel => first | exact ⟨0 + 1, n, by omega, rfl, by go_num, HN2, hn, hx2⟩ | ((repeat apply Exists.intro); exact ⟨⟨0 + 1, n, by omega, rfl, by go_num, HN2, hn, hx2⟩, rfl⟩)
            case measure => first | (simp [intOf]; done) | (simp [intOf]; omega)
          | succ j =>
            obtain ⟨b', off', e', hcy⟩ := hr2 j (by omega)
            cases e'
            have hcy2 := hx.cell hcy
            have hE := HF.out j hlt
            have hle := HFL.out (j + 1 + 1) (by omega)
            have HN0 := HN.out
            obtain ⟨f1, hf1⟩ : ∃ f, f = few l (j + 1 + 1) := ⟨_, rfl⟩
            have HF2 := Lib.hid hf1
            rw [← hf1, ← HN0] at hE
            rw [← hf1] at hle
            clear hf1 HN0 HN
            generalize l.getD (j + 1) 0 = x at hc hc2 hE
            generalize l.getD j 0 = y0 at hcy hcy2 hE
            have hji : (j : Int) < (m : Int) := by omega
            have hj0 : (0 : Int) ≤ (j : Int) := by omega
            have hj1 : (j : Int) + 1 - 1 = (j : Int) := by omega
            have hj00 : (0 : Int) < (j : Int) + 1 := by omega
            have ka1 := fun a : After wr => (After.ext a).cell hc2
            have ka2 := fun a : After wr => (After.ext a).cell hcy2
            clear hc hc2 hcy hcy2 hr2 ha2
            by_cases hxy : x = y0
            · rw [if_pos hxy] at hE
              subst hxy
              have HN2 : Hid (n = few l (j + 1 + 1)) := Lib.hid (by rw [← HF2.out, hE])
              clear hE hle
              go_wp2_with fail
              (refine wp_region_after (by kernel_rfl) (by kernel_rfl) ?_; (repeat (first | go_big_quiet_skip | (go_big_quiet_want; first | (fail; simp only [Act.put, List.setIfInBounds_toArray, List.set_cons_succ, List.set_cons_zero]; go_big_quiet_on) | (go_big_quiet_op; first | go_big_quiet_on | (apply Exists.intro; refine ⟨fun _ => ?_, ?_⟩; (· (fail)); go_big_quiet_on))))); refine wpQuiet_nil ?_; rintro _ ⟨y, rfl⟩)
              have hx2 := Mut.trans hx y.ext
              clear ka1 ka2
              go_wp2_with fail
              go_roundw
              case rel => first | exact ⟨j + 1 + 1, n, by omega, rfl, by go_num, HN2, hn, hx2⟩ | ((repeat apply Exists.intro); exact ⟨⟨j + 1 + 1, n, by omega, rfl, by go_num, HN2, hn, hx2⟩, rfl⟩)
              case measure => simp [intOf]; omega
            · rw [if_neg hxy] at hE
              have hne : ((x : Int) != (y0 : Int)) = true := by rw [bne_iff_ne]; omega
              have HN2 : Hid (n + 1 = few l (j + 1 + 1)) := Lib.hid (by rw [← HF2.out, hE])
              have hn2 : n + 1 ≤ 501 := by omega
              clear hE hle hxy
              go_wp2_with fail
              (refine wp_region_after (by kernel_rfl) (by kernel_rfl) ?_; (repeat (first | go_big_quiet_skip | (go_big_quiet_want; first | (fail; simp only [Act.put, List.setIfInBounds_toArray, List.set_cons_succ, List.set_cons_zero]; go_big_quiet_on) | (go_big_quiet_op; first | go_big_quiet_on | (apply Exists.intro; refine ⟨fun _ => ?_, ?_⟩; (· (fail)); go_big_quiet_on))))); refine wpQuiet_nil ?_; rintro _ ⟨y, rfl⟩)
              have hx2 := Mut.trans hx y.ext
              clear ka1 ka2
              go_wp2_with fail
              go_roundw
              case rel => first | exact ⟨j + 1 + 1, n + 1, by omega, by go_num, by go_num, HN2, hn2, hx2⟩ | ((repeat apply Exists.intro); exact ⟨⟨j + 1 + 1, n + 1, by omega, by go_num, by go_num, HN2, hn2, hx2⟩, rfl⟩)
              case measure => simp [intOf]; omega
        · obtain rfl : i = m := by omega
          have HP := Lib.hid (pack_st ((St.start noB w).ext hx) A ca l i HM.out.symm (by omega) (hr.ext hx) ha)
          have HNL : Hid (n = (pk l).length) := Lib.hid (by
            rw [HN.out]; unfold few; rw [if_neg h00]
            have := HM.out
            rw [this, List.take_length])
          have HEX := Lib.hid (expand_pk l)
          have HT := Lib.hid (expand_take (pk l))
          have HTL := Lib.hid (expand_take_le (pk l))
          generalize pk l = p at HP HNL HEX HT HTL
          clear ha2 hr2 hr ha
          go_wp2_with (go_at_call 10; refine HP.out.mono ?_; rintro e w2 ⟨A2, n2, c2, rfl, hn2, h2⟩; obtain rfl : n2 = n := (hn2.trans HNL.out.symm); clear hn2)
          go_loopw [6, 48] (fun vs vi wr => ∃ (k sm : Nat), k ≤ n2 ∧ vs = .int .u64 sm ∧ vi = .int .i64 k ∧ Hid (sm = (expand (p.take k)).length) ∧ sm ≤ 500 ∧ St noB w wr [ownT 36 2 (.slice A2 n2 c2) n2 (runsV p)]) (fun _ vi _ => n2 - (intOf vi).toNat)
          case atStart => exact ⟨0, 0, by omega, rfl, rfl, Lib.hid (by simp [expand]), by omega, h2⟩
          case round =>
            clear h2
            obtain ⟨k, sm, hk, rfl, rfl, HS, hsm, h⟩ := hrel
            by_cases hlk : k < n2
            · obtain ⟨b5, o5, hb, hc0, hc1⟩ := (Own.rrow h.own HNL.out.symm) k (by have := HNL.out; omega)
              subst hb
              have hE := HT.out k (by have := HNL.out; omega)
              have hL := HTL.out (k + 1)
              rw [HEX.out, ← HM.out] at hL
              rw [← HS.out] at hE
              obtain ⟨s2, hs2⟩ : ∃ s2, s2 = (expand (p.take (k + 1))).length := ⟨_, rfl⟩
              have HS2 := Lib.hid hs2
              rw [← hs2] at hE hL
              clear hs2
              generalize p.getD k (0, 0) = r at hc0 hc1 hE
              obtain ⟨xv, xc⟩ := r
              simp only at hc0 hc1 hE
              have h4 := (h.alloc #[Value.int .u64 xv, Value.int .u64 xc] 36).drop
              have hs3 : sm + xc ≤ 500 := by omega
              have HS3 : Hid (sm + xc = (expand (p.take (k + 1))).length) := Lib.hid (by rw [← HS2.out, hE])
              clear hE hL
              go_wp2_with fail
              go_roundw
              case rel => first | exact ⟨k + 1, sm + xc, by omega, by go_num, by go_num, HS3, hs3, h4⟩ | ((repeat apply Exists.intro); exact ⟨⟨k + 1, sm + xc, by omega, by go_num, by go_num, HS3, hs3, h4⟩, rfl⟩)
              case measure => simp [intOf]; omega
            · obtain rfl : k = n2 := by omega
              have HSM : Hid (sm = i) := Lib.hid (by rw [HS.out, HNL.out, List.take_length, HEX.out]; exact HM.out.symm)
              have hsm2 : ((sm : Int) == (i : Int)) = true := by rw [HSM.out]; simp
              go_wp2_with fail
              go_ret
              exact ⟨rfl, h.ends⟩
    · clear hr ha
      go_enter Try.func5, Try.ntmps5
      go_wp2_with (go_at_call 9; refine (rawake_any _).mono ?_; rintro e w1 ⟨rfl, x1⟩)
      go_ret
      exact ⟨rfl, Mut.trans (by assumption) x1⟩
end Go.Proofs.Ytpdhfmkaeemadaa
