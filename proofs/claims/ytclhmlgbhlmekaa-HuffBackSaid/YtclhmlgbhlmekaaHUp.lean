/- Layer 7: container/heap's up, Init, Push, Pop, on trees. -/
import Derived.Test.YtclhmlgbhlmekaaHDown
namespace Go.Proofs.Ytclhmlgbhlmekaa
open Go.RowKit
set_option linter.unusedVariables false
set_option linter.unusedSimpArgs false
section
variable {S : Nat → Prop} {W : World} {b : Nat} {A : Option Addr} {n c : Nat} {vs : Nat → Value} {M : List Thing}
set_option maxRecDepth 20000 in
set_option maxHeartbeats 4000000 in
theorem up_st {w : World} {l : List WN} (hv : ∀ k, (vs k).oneCell' = true) (h : St S W w (hpT b A n c vs l M)) (hl : l.length = n) (hn : n ≤ 1000000) (j0 f : Nat) (hj : j0 < n) (hf : j0 < f) :
    Calls Try.prog 43 #[hpV b, .int .i64 j0] w fun e w' => e = .returned (.tuple #[]) ∧ St S W w' (hpT b A n c vs (hup f l j0) M) := by
  generalize hR : hup f l j0 = R
  have HR := Lib.hid hR
  clear hR
  go_enter Try.func43, Try.ntmps43
  go_wp2_with fail
  go_loopw [1] (fun v1 wr => ∃ (j : Nat) (l : List WN) (f : Nat), v1 = .int .i64 j ∧ j < n ∧ j < f ∧ l.length = n ∧ Hid (hup f l j = R) ∧ St S W wr (hpT b A n c vs l M)) (fun v1 _ => (intOf v1).toNat)
  case atStart => exact ⟨j0, l, f, rfl, hj, hf, hl, HR, h⟩
  case round =>
    clear h hl HR hf
    obtain ⟨j, l, f, rfl, hj, hf, hl, HD, h⟩ := hrel
    obtain ⟨f, rfl⟩ : ∃ g, f = g + 1 := ⟨f - 1, by omega⟩
    have hD := HD.out
    rw [hup] at hD
    by_cases h0 : j = 0
    · subst h0
      rw [if_pos rfl] at hD
      have HD2 := Lib.hid hD
      clear hD HD
      go_wp2_with fail
      go_end0
      rw [← HD2.out]
      exact ⟨rfl, h⟩
    · rw [if_neg h0] at hD
      obtain ⟨p, hp⟩ : ∃ p, p = (j - 1) / 2 := ⟨_, rfl⟩
      rw [← hp] at hD
      have hq : Int.tdiv ((j : Int) - 1) 2 = (p : Int) := by rw [Int.tdiv_eq_ediv_of_nonneg (by omega)]; omega
      have hpj : p < j := by omega
      have HL := Lib.hid (hp_less h hl hn j p (j : Int) (p : Int) (by omega) (by omega) (by omega) (by omega))
      have hmL := meth_less b _ _ (hp_cell h)
      generalize hb : wlt (hget l j) (hget l p) = q at HL
      have HB := Lib.hid hb
      clear hp h0 hb
      go_wp2_with fail
      refine HL.out.mono ?_
      rintro e w2 ⟨rfl, h2⟩
      clear hmL HL h
      cases q with
      | false =>
        rw [HB.out, if_neg (by simp)] at hD
        have HD2 := Lib.hid hD
        clear hD HB HD
        go_wp2_with fail
        go_end0
        rw [← HD2.out]
        exact ⟨rfl, h2⟩
      | true =>
        rw [HB.out, if_pos rfl] at hD
        have HD2 := Lib.hid hD
        have HS := Lib.hid (hp_swap hv h2 hl hn p j (p : Int) (j : Int) (by omega) (by omega) (by omega) (by omega))
        have hmS := meth_swap b _ w2 (hp_cell h2)
        clear hD HB HD h2
        go_wp2_with fail
        refine HS.out.mono ?_
        rintro e w3 ⟨rfl, h3⟩
        clear hmS HS
        go_wp2_with fail
        go_roundw
        case rel => first | exact ⟨p, hswap l p j, f, by go_num, by omega, by omega, by rw [hswap_len]; exact hl, HD2, h3⟩ | ((repeat apply Exists.intro); exact ⟨⟨p, hswap l p j, f, by go_num, by omega, by omega, by rw [hswap_len]; exact hl, HD2, h3⟩, rfl⟩)
        case measure => first | (simp [intOf]; done) | (simp [intOf]; omega)
set_option maxRecDepth 20000 in
set_option maxHeartbeats 4000000 in
theorem init_st {w : World} {l : List WN} (hv : ∀ k, (vs k).oneCell' = true) (h : St S W w (hpT b A n c vs l M)) (hl : l.length = n) (hn : n ≤ 1000000) :
    Calls Try.prog 23 #[hpV b] w fun e w' => e = .returned (.tuple #[]) ∧ St S W w' (hpT b A n c vs (hinit (n / 2) l) M) := by
  generalize hR : hinit (n / 2) l = R
  have HR := Lib.hid hR
  clear hR
  have hm := meth_len b _ w (hp_cell h)
  obtain ⟨p, hp⟩ : ∃ p, p = n / 2 := ⟨_, rfl⟩
  have hq : Int.tdiv (n : Int) 2 = (p : Int) := by rw [Int.tdiv_eq_ediv_of_nonneg (by omega)]; omega
  rw [← hp] at HR
  have hpn : 2 * p ≤ n := by omega
  clear hp
  go_enter Try.func23, Try.ntmps23
  go_wp2_with fail
  refine (len_any A n c _).mono ?_
  rintro e w1 ⟨rfl, rfl⟩
  clear hm
  go_wp2_with fail
  go_loopw [3] (fun v3 wr => ∃ (i : Nat) (l : List WN), v3 = .int .i64 ((i : Int) - 1) ∧ 2 * i ≤ n ∧ l.length = n ∧ Hid (hinit i l = R) ∧ St S W wr (hpT b A n c vs l M)) (fun v3 _ => (intOf v3 + 1).toNat)
  case atStart => exact ⟨p, l, by go_num, hpn, hl, HR, h⟩
  case round =>
    clear h hl HR hq
    obtain ⟨i, l, rfl, hi, hl, HD, h⟩ := hrel
    cases i with
    | zero =>
      have hD : l = R := HD.out
      have HD2 := Lib.hid hD
      clear hD HD
      go_wp2_with fail
      go_end0
      rw [← HD2.out]
      exact ⟨rfl, h⟩
    | succ i =>
      have hD := HD.out
      rw [hinit, hl] at hD
      have HD2 := Lib.hid hD
      have HC := Lib.hid (down_st hv h hl hn i n n (by omega) (Nat.le_refl _) (by omega))
      have hlen : (hdown n l i n).length = n := by rw [hdown_len]; exact hl
      generalize hdown n l i n = l2 at HD2 HC hlen
      have hz : ((i + 1 : Nat) : Int) - 1 = (i : Int) := by omega
      clear hD HD h
      go_wp2_with fail
      rw [hz]
      refine HC.out.mono ?_
      rintro e w1 ⟨⟨r, rfl⟩, h⟩
      clear HC
      go_wp2_with fail
      go_roundw
      case rel => first | exact ⟨i, l2, by go_num, by omega, hlen, HD2, h⟩ | ((repeat apply Exists.intro); exact ⟨⟨i, l2, by go_num, by omega, hlen, HD2, h⟩, rfl⟩)
      case measure => first | (simp [intOf]; done) | (simp [intOf]; omega)
end
end Go.Proofs.Ytclhmlgbhlmekaa
