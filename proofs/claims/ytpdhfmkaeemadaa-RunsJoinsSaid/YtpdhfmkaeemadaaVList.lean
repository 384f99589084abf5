/- Layer 2: lists of numbers. -/
import Derived.Test.YtpdhfmkaeemadaaVRead
import Derived.Test.YtpdhfmkaeemadaaAfter
import Derived.Deep.QuietTactic
import Derived.BigQuiet
namespace Go.Proofs.Ytpdhfmkaeemadaa
open Go.RowKit
set_option linter.unusedVariables false
set_option linter.unusedSimpArgs false
set_option maxHeartbeats 1000000 in
/-- two lists -/
theorem nsame_any (A B : Option Addr) (ca cb : Nat) (L M : List Nat) (w : World) (ha : NRow w A L) (hb : NRow w B M) (hL : L.length ≤ 9223372036854775807) (hM : M.length ≤ 9223372036854775807) :
    Calls Try.prog 14 #[.slice A L.length ca, .slice B M.length cb] w fun e w' => e = .returned (.bool (decide (L = M))) ∧ Ext w w' := by
  by_cases hlen : L.length = M.length
  · obtain ⟨m, hm⟩ : ∃ m, m = M.length := ⟨_, rfl⟩
    have HM := Lib.hid hm
    have HLM := Lib.hid hlen
    have ha2 : ∀ i, i < m → ∃ b off, A = some ⟨b, off, none⟩ ∧ w.cell? ⟨b, off + i, none⟩ = some (.int .u64 (L.getD i 0 : Nat)) := fun i hi => ha i (by omega)
    have hb2 : ∀ i, i < m → ∃ b off, B = some ⟨b, off, none⟩ ∧ w.cell? ⟨b, off + i, none⟩ = some (.int .u64 (M.getD i 0 : Nat)) := fun i hi => hb i (by omega)
    rw [hlen, ← hm]
    have hmm : m ≤ 9223372036854775807 := by omega
    clear hm hlen hM hL ha hb
    go_enter Try.func14, Try.ntmps14
    go_wp2_with fail
    go_loopw [5] (fun vi wr => ∃ i : Nat, i ≤ m ∧ vi = .int .i64 i ∧ Ext w wr ∧ Hid (∀ j, j < i → L.getD j 0 = M.getD j 0)) (fun vi _ => m - (intOf vi).toNat)
    case atStart => exact ⟨0, by omega, rfl, Mut.refl _ _, Lib.hid (fun j hj => by omega)⟩
    case round =>
      obtain ⟨i, hi, rfl, hx, HE⟩ := hrel
      by_cases hlt : i < m
      · obtain ⟨b1, o1, rfl, hc1⟩ := ha2 i hlt
        obtain ⟨b2, o2, rfl, hc2⟩ := hb2 i hlt
        have hd1 := hx.cell hc1
        have hd2 := hx.cell hc2
        clear hc1 hc2
        by_cases he : L.getD i 0 = M.getD i 0
        · have HN : Hid (∀ j, j < i + 1 → L.getD j 0 = M.getD j 0) := Lib.hid (fun j hj => by
            by_cases hji : j = i
            · rw [hji]; exact he
            · exact HE.out j (by omega))
          rw [he] at hd1
          generalize M.getD i 0 = x at hd1 hd2
          have hli : (i : Int) < (m : Int) := by omega
          have hl0 : (0 : Int) ≤ (i : Int) := by omega
          have ka1 := fun a : After wr => (After.ext a).cell hd1
          have ka2 := fun a : After wr => (After.ext a).cell hd2
          clear he ha2 hb2 HE
          go_wp2_with fail
          (refine wp_region_after (by kernel_rfl) (by kernel_rfl) ?_; (repeat (first | go_big_quiet_skip | (go_big_quiet_want; first | (fail; simp only [Act.put, List.setIfInBounds_toArray, List.set_cons_succ, List.set_cons_zero]; go_big_quiet_on) | (go_big_quiet_op; first | go_big_quiet_on | (apply Exists.intro; refine ⟨fun _ => ?_, ?_⟩; (· (fail)); go_big_quiet_on))))); refine wpQuiet_nil ?_; rintro _ ⟨y, rfl⟩)
          have hx2 := Mut.trans hx y.ext
          go_wp2_with fail
          go_roundw
          case rel => first | exact ⟨i + 1, by omega, by go_num, hx2, HN⟩ | ((repeat apply Exists.intro); exact ⟨⟨i + 1, by omega, by go_num, hx2, HN⟩, rfl⟩)
          case measure => simp [intOf]; omega
        · have HN : Hid (¬ L = M) := Lib.hid (fun h => he (by rw [h]))
          generalize L.getD i 0 = y at hd1 he
          generalize M.getD i 0 = x at hd2 he
          have hne : ((y : Int) != (x : Int)) = true := by rw [bne_iff_ne]; omega
          have hli : (i : Int) < (m : Int) := by omega
          have hl0 : (0 : Int) ≤ (i : Int) := by omega
          have ka1 := fun a : After wr => (After.ext a).cell hd1
          have ka2 := fun a : After wr => (After.ext a).cell hd2
          clear he ha2 hb2 HE
          go_wp2_with fail
          (refine wp_region_after (by kernel_rfl) (by kernel_rfl) ?_; (repeat (first | go_big_quiet_skip | (go_big_quiet_want; first | (fail; simp only [Act.put, List.setIfInBounds_toArray, List.set_cons_succ, List.set_cons_zero]; go_big_quiet_on) | (go_big_quiet_op; first | go_big_quiet_on | (apply Exists.intro; refine ⟨fun _ => ?_, ?_⟩; (· (fail)); go_big_quiet_on))))); refine wpQuiet_nil ?_; rintro _ ⟨y, rfl⟩)
          have hx2 := Mut.trans hx y.ext
          go_wp2_with fail
          go_ret
          rw [decide_eq_false HN.out]
          exact ⟨rfl, hx2⟩
      · obtain rfl : i = m := by omega
        have HN : Hid (L = M) := Lib.hid (by
          apply List.ext_getElem (by rw [HLM.out])
          intro j h1 h2
          have := HE.out j (by rw [HM.out]; exact h2)
          rw [List.getD_eq_getElem?_getD, List.getD_eq_getElem?_getD, List.getElem?_eq_getElem h1, List.getElem?_eq_getElem h2] at this
          exact this)
        go_wp2_with fail
        go_ret
        rw [decide_eq_true HN.out]
        exact ⟨rfl, hx⟩
  · have HN : Hid (¬ L = M) := Lib.hid (fun h => hlen (by rw [h]))
    clear ha hb
    have HL := Lib.hid hlen
    generalize L.length = x at hlen hL
    generalize M.length = y at hlen hM
    have hne : ((x : Int) != (y : Int)) = true := by rw [bne_iff_ne]; omega
    clear hlen
    go_enter Try.func14, Try.ntmps14
    go_wp2_with fail
    go_ret
    rw [decide_eq_false HN.out]
    exact ⟨rfl, Mut.refl _ _⟩

/-- n numbers that stand at a; an error; the place behind -/
def vls (l : List UInt8) : Nat → Nat → List Nat → List Nat × Nat × Nat
  | 0, a, acc => (acc, 0, a)
  | n + 1, a, acc => if (vrd l a).2.1 = 0 then vls l n (vrd l a).2.2 (acc ++ [(vrd l a).1]) else ([], (vrd l a).2.1, (vrd l a).2.2)
def vrl (l : List UInt8) (a : Nat) (most : Int) : List Nat × Nat × Nat :=
  if most < 0 then ([], 1, a)
  else if (vrd l a).2.1 = 0 then
    if most < (vrd l a).1 then ([], 4, (vrd l a).2.2) else vls l (vrd l a).1 (vrd l a).2.2 []
  else ([], (vrd l a).2.1, (vrd l a).2.2)
theorem vgo_adv (l : List UInt8) (a : Nat) : ∀ f k n, (vgo l a f k n).2.1 = 0 → a < (vgo l a f k n).2.2
  | 0, k, n, h => by simp [vgo] at h
  | f + 1, k, n, h => by
    rw [vgo] at h ⊢
    split at h
    · simp at h
    · rename_i h1
      rw [if_neg h1]
      split at h
      · simp at h
      · rename_i h2
        rw [if_neg h2]
        split at h
        · rename_i h3; rw [if_pos h3]; simp; omega
        · rename_i h3; rw [if_neg h3]; exact vgo_adv l a f _ _ h
theorem vrd_adv (l : List UInt8) (a : Nat) (h : (vrd l a).2.1 = 0) : a < (vrd l a).2.2 := vgo_adv l a 10 0 0 h
end Go.Proofs.Ytpdhfmkaeemadaa
