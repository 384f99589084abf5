/- Layer 2: lists of numbers. -/
import Derived.Test.YtkjnpjkfagdegaaVRead
import Derived.Test.YtkjnpjkfagdegaaAfter
import Derived.Deep.QuietTactic
import Derived.BigQuiet
namespace Go.Proofs.Ytkjnpjkfagdegaa
open Go.RowKit
set_option linter.unusedVariables false
set_option linter.unusedSimpArgs false
set_option maxHeartbeats 1000000 in
/-- two lists -/
theorem nsame_any (A B : Option Addr) (ca cb : Nat) (L M : List Nat) (w : World) (ha : NRow w A L) (hb : NRow w B M) (hL : L.length ≤ 9223372036854775807) (hM : M.length ≤ 9223372036854775807) :
    Calls Try.prog 14 #[.slice A L.length ca, .slice B M.length cb] w fun e w' => e = .returned (.bool (decide (L = M))) ∧ Ext w w' := by
  by_cases hlen : L.length = M.length
  · obtain ⟨m, hm⟩ : ∃ m, m = M.length := ⟨_, rfl⟩
    have HM := Lib.hid hm
    have HLM := Lib.hid hlen
    have ha2 : ∀ i, i < m → ∃ b off, A = some ⟨b, off, none⟩ ∧ w.cell? ⟨b, off + i, none⟩ = some (.int .u64 (L.getD i 0 : Nat)) := fun i hi => ha i (by omega)
    have hb2 : ∀ i, i < m → ∃ b off, B = some ⟨b, off, none⟩ ∧ w.cell? ⟨b, off + i, none⟩ = some (.int .u64 (M.getD i 0 : Nat)) := fun i hi => hb i (by omega)
    rw [hlen, ← hm]
    have hmm : m ≤ 9223372036854775807 := by omega
    clear hm hlen hM hL ha hb
    go_enter Try.func14, Try.ntmps14
    go_wp2_with fail
    go_loopw [5] (fun vi wr => ∃ i : Nat, i ≤ m ∧ vi = .int .i64 i ∧ Ext w wr ∧ Hid (∀ j, j < i → L.getD j 0 = M.getD j 0)) (fun vi _ => m - (intOf vi).toNat)
    case atStart => exact ⟨0, by omega, rfl, Mut.refl _ _, Lib.hid (fun j hj => by omega)⟩
    case round =>
      obtain ⟨i, hi, rfl, hx, HE⟩ := hrel
      by_cases hlt : i < m
      · obtain ⟨b1, o1, rfl, hc1⟩ := ha2 i hlt
        obtain ⟨b2, o2, rfl, hc2⟩ := hb2 i hlt
        have hd1 := hx.cell hc1
        have hd2 := hx.cell hc2
        clear hc1 hc2
        by_cases he : L.getD i 0 = M.getD i 0
        · have HN : Hid (∀ j, j < i + 1 → L.getD j 0 = M.getD j 0) := Lib.hid (fun j hj => by
            by_cases hji : j = i
            · rw [hji]; exact he
            · exact HE.out j (by omega))
          rw [he] at hd1
          generalize M.getD i 0 = x at hd1 hd2
          have hli : (i : Int) < (m : Int) := by omega
          have hl0 : (0 : Int) ≤ (i : Int) := by omega
          have ka1 := fun a : After wr => (After.ext a).cell hd1
          have ka2 := fun a : After wr => (After.ext a).cell hd2
          clear he ha2 hb2 HE
          go_wp2_with fail
          (refine wp_region_after (by kernel_rfl) (by kernel_rfl) ?_; (repeat (first | go_big_quiet_skip | (go_big_quiet_want; first | (fail; simp only [Act.put, List.setIfInBounds_toArray, List.set_cons_succ, List.set_cons_zero]; go_big_quiet_on) | (go_big_quiet_op; first | go_big_quiet_on | (apply Exists.intro; refine ⟨fun _ => ?_, ?_⟩; (· (fail)); go_big_quiet_on))))); refine wpQuiet_nil ?_; rintro _ ⟨y, rfl⟩)
          have hx2 := Mut.trans hx y.ext
          go_wp2_with fail
          go_roundw
          case rel => first | exact ⟨i + 1, by omega, by go_num, hx2, HN⟩ | ((repeat apply Exists.intro); exact ⟨⟨i + 1, by omega, by go_num, hx2, HN⟩, rfl⟩)
          case measure => simp [intOf]; omega
        · have HN : Hid (¬ L = M) := Lib.hid (fun h => he (by rw [h]))
          generalize L.getD i 0 = y at hd1 he
          generalize M.getD i 0 = x at hd2 he
          have hne : ((y : Int) != (x : Int)) = true := by rw [bne_iff_ne]; omega
          have hli : (i : Int) < (m : Int) := by omega
          have hl0 : (0 : Int) ≤ (i : Int) := by omega
          have ka1 := fun a : After wr => (After.ext a).cell hd1
          have ka2 := fun a : After wr => (After.ext a).cell hd2
          clear he ha2 hb2 HE
          go_wp2_with fail
          (refine wp_region_after (by kernel_rfl) (by kernel_rfl) ?_; (repeat (first | go_big_quiet_skip | (go_big_quiet_want; first | (fail; simp only [Act.put, List.setIfInBounds_toArray, List.set_cons_succ, List.set_cons_zero]; go_big_quiet_on) | (go_big_quiet_op; first | go_big_quiet_on | (apply Exists.intro; refine ⟨fun _ => ?_, ?_⟩; (· (fail)); go_big_quiet_on))))); refine wpQuiet_nil ?_; rintro _ ⟨y, rfl⟩)
          have hx2 := Mut.trans hx y.ext
          go_wp2_with fail
          go_ret
          rw [decide_eq_false HN.out]
          exact ⟨rfl, hx2⟩
      · obtain rfl : i = m := by omega
        have HN : Hid (L = M) := Lib.hid (by
          apply List.ext_getElem (by rw [HLM.out])
          intro j h1 h2
          have := HE.out j (by rw [HM.out]; exact h2)
          rw [List.getD_eq_getElem?_getD, List.getD_eq_getElem?_getD, List.getElem?_eq_getElem h1, List.getElem?_eq_getElem h2] at this
          exact this)
        go_wp2_with fail
        go_ret
        rw [decide_eq_true HN.out]
        exact ⟨rfl, hx⟩
  · have HN : Hid (¬ L = M) := Lib.hid (fun h => hlen (by rw [h]))
    clear ha hb
    have HL := Lib.hid hlen
    generalize L.length = x at hlen hL
    generalize M.length = y at hlen hM
    have hne : ((x : Int) != (y : Int)) = true := by rw [bne_iff_ne]; omega
    clear hlen
    go_enter Try.func14, Try.ntmps14
    go_wp2_with fail
    go_ret
    rw [decide_eq_false HN.out]
    exact ⟨rfl, Mut.refl _ _⟩

/-- n numbers that stand at a; an error; the place behind -/
def vls (l : List UInt8) : Nat → Nat → List Nat → List Nat × Nat × Nat
  | 0, a, acc => (acc, 0, a)
  | n + 1, a, acc => if (vrd l a).2.1 = 0 then vls l n (vrd l a).2.2 (acc ++ [(vrd l a).1]) else ([], (vrd l a).2.1, (vrd l a).2.2)
def vrl (l : List UInt8) (a : Nat) (most : Int) : List Nat × Nat × Nat :=
  if most < 0 then ([], 1, a)
  else if (vrd l a).2.1 = 0 then
    if most < (vrd l a).1 then ([], 4, (vrd l a).2.2) else vls l (vrd l a).1 (vrd l a).2.2 []
  else ([], (vrd l a).2.1, (vrd l a).2.2)
theorem vgo_adv (l : List UInt8) (a : Nat) : ∀ f k n, (vgo l a f k n).2.1 = 0 → a < (vgo l a f k n).2.2
  | 0, k, n, h => by simp [vgo] at h
  | f + 1, k, n, h => by
    rw [vgo] at h ⊢
    split at h
    · simp at h
    · rename_i h1
      rw [if_neg h1]
      split at h
      · simp at h
      · rename_i h2
        rw [if_neg h2]
        split at h
        · rename_i h3; rw [if_pos h3]; simp; omega
        · rename_i h3; rw [if_neg h3]; exact vgo_adv l a f _ _ h
theorem vrd_adv (l : List UInt8) (a : Nat) (h : (vrd l a).2.1 = 0) : a < (vrd l a).2.2 := vgo_adv l a 10 0 0 h
section
variable {S : Nat → Prop} {W w : World} {M : List Thing} {b : Nat} {s : ByteArray} {a : Nat}
set_option maxRecDepth 20000 in
set_option maxHeartbeats 4000000 in
theorem vreadlist_st (h : St S W w (rdT b s a :: M)) (hs : s.size ≤ 1000000) (ha : a ≤ s.size) (most : Int) (hm : -9223372036854775808 ≤ most ∧ most < 9223372036854775808) :
    Calls Try.prog 24 #[.pointer (some ⟨b, 0, none⟩), .int .i64 most] w fun e w' => ∃ v, e = .returned (.tuple #[v, .int .i64 (vrl s.data.toList a most).2.1]) ∧ St S W w' (nlT v (vrl s.data.toList a most).1 :: rdT b s (vrl s.data.toList a most).2.2 :: M) := by
  by_cases h0 : most < 0
  · rw [vrl, if_pos h0]
    go_enter Try.func24, Try.ntmps24
    go_wp2_with fail
    go_ret2
    exact ⟨_, rfl, h.nilOwn _ _⟩
  · obtain ⟨most, rfl⟩ : ∃ k : Nat, most = k := ⟨most.toNat, by omega⟩
    have HR := Lib.hid (show vrl s.data.toList a most = if (vrd s.data.toList a).2.1 = 0 then if (most : Int) < (vrd s.data.toList a).1 then ([], 4, (vrd s.data.toList a).2.2) else vls s.data.toList (vrd s.data.toList a).1 (vrd s.data.toList a).2.2 [] else ([], (vrd s.data.toList a).2.1, (vrd s.data.toList a).2.2) by rw [vrl, if_neg h0])
    generalize vrl s.data.toList a most = R at HR ⊢
    have hf := vrd_facts s.data.toList a (by simpa using ha)
    have HV := Lib.hid (vread_st h (by omega) ha)
    have hadv := vrd_adv s.data.toList a
    obtain ⟨⟨n, er, en⟩, hT⟩ : ∃ T, T = vrd s.data.toList a := ⟨_, rfl⟩
    rw [← hT] at HV HR hf hadv
    clear hT h
    obtain ⟨hn, her, hen, hel⟩ := hf
    simp only at hn her hen hel hadv HR HV
    rw [show s.data.toList.length = s.size by simp] at hel
    by_cases he : er = 0
    · subst he
      rw [if_pos rfl] at HR
      by_cases hmn : (most : Int) < n
      · rw [if_pos hmn] at HR
        go_enter Try.func24, Try.ntmps24
        go_wp2_with (go_at_call 29; refine HV.out.mono ?_; rintro e w1 ⟨rfl, h1⟩)
        go_ret2
        rw [HR.out]
        exact ⟨_, rfl, h1.nilOwn _ _⟩
      · rw [if_neg hmn] at HR
        go_enter Try.func24, Try.ntmps24
        go_wp2_with (go_at_call 29; refine HV.out.mono ?_; rintro e w1 ⟨rfl, h1⟩)
        have h2 := h1.nilOwn 22 1
        clear h1 hadv
        go_loopw [8, 30] (fun vl vi wr => ∃ (i k at' : Nat) (v : Value) (L : List Nat), vl = v ∧ vi = .int .u64 i ∧ i ≤ n ∧ L.length = k ∧ k ≤ at' ∧ at' ≤ s.size ∧ Hid (R = vls s.data.toList (n - i) at' L) ∧ St S W wr (ownT 22 1 v k (numsV L) :: rdT b s at' :: M)) (fun _ vi _ => n - (intOf vi).toNat)
        case atStart => exact ⟨0, 0, en, _, [], rfl, rfl, by omega, rfl, by omega, hel, HR, h2⟩
        case round =>
          clear h2 HV HR
          obtain ⟨i, k, at', v, L, rfl, rfl, hi, hL, hka, hat, HR, h⟩ := hrel
          obtain ⟨A, c, rfl⟩ := h.own.form
          by_cases hlt : i < n
          · have hR := HR.out
            rw [show n - i = (n - (i + 1)) + 1 by omega, vls] at hR
            have hf := vrd_facts s.data.toList at' (by simpa using hat)
            have HV := Lib.hid (vread_st h.swap (by omega) hat)
            have hadv := vrd_adv s.data.toList at'
            obtain ⟨⟨n2, er, en2⟩, hT⟩ : ∃ T, T = vrd s.data.toList at' := ⟨_, rfl⟩
            rw [← hT] at HV hR hf hadv
            clear hT HR
            obtain ⟨hn2, her2, hen2, hel2⟩ := hf
            simp only at hn2 her2 hen2 hel2 hadv hR HV
            rw [show s.data.toList.length = s.size by simp] at hel2
            by_cases he : er = 0
            · subst he
              rw [if_pos rfl] at hR
              have hadv2 := hadv rfl
              have HR := Lib.hid hR
              clear hadv hR h
              go_wp2_with (first
                | (go_at_call 29; refine HV.out.mono ?_; rintro e w1 ⟨rfl, h1⟩; have h2 := h1.swap)
                | (at_builtin; refine wpList_push rfl _ _ _ rfl 22 (.int .u64 0) 1 8 Try.underlying27 u64_info rfl (by decide) h2 rfl rfl rfl (numsV_one [n2]) (by unfold maxLen; omega) (by omega) ?_; intro A' c' w3 h3))
              have h4 : St S W w3 (ownT 22 1 (.slice A' (k + 1) c') (k + 1) (numsV (L ++ [n2])) :: rdT b s en2 :: M) := by rw [numsV_append]; exact h3
              go_roundw
              case rel => first | exact ⟨_, _, _, _, _, _, ⟨i + 1, rfl, by omega, k + 1, en2, L ++ [n2], by simp [hL], by omega, hel2, HR, h4⟩, rfl, rfl, rfl, rfl, rfl, by go_num⟩ | exact ⟨i + 1, k + 1, en2, _, L ++ [n2], rfl, by go_num, by omega, by simp [hL], by omega, hel2, HR, h4⟩ | ((repeat apply Exists.intro); exact ⟨⟨i + 1, k + 1, en2, _, L ++ [n2], rfl, by go_num, by omega, by simp [hL], by omega, hel2, HR, h4⟩, rfl⟩)
              case measure => simp [intOf]; omega
            · rw [if_neg he] at hR
              have HR := Lib.hid hR
              have hne : ((er : Int) != 0) = true := by rw [bne_iff_ne]; omega
              clear he hR hadv h
              go_wp2_with (go_at_call 29; refine HV.out.mono ?_; rintro e w1 ⟨rfl, h1⟩)
              go_ret2
              rw [HR.out]
              exact ⟨_, rfl, h1.swap.drop.nilOwn _ _⟩
          · obtain rfl : i = n := by omega
            rw [Nat.sub_self, vls] at HR
            subst hL
            go_wp2_with fail
            go_ret2
            rw [HR.out]
            exact ⟨_, rfl, h⟩
    · rw [if_neg he] at HR
      have hne : ((er : Int) != 0) = true := by rw [bne_iff_ne]; omega
      have hne2 : ((er : Int) == 0) = false := by rw [beq_eq_false_iff_ne]; omega
      clear he hadv
      go_enter Try.func24, Try.ntmps24
      go_wp2_with (go_at_call 29; refine HV.out.mono ?_; rintro e w1 ⟨rfl, h1⟩)
      go_ret2
      rw [HR.out]
      exact ⟨_, rfl, h1.nilOwn _ _⟩
end
end Go.Proofs.Ytkjnpjkfagdegaa
