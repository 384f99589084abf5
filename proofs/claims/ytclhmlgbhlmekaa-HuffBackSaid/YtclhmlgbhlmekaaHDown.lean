/- Layer 7: container/heap's down and up, on trees. -/
import Derived.Test.YtclhmlgbhlmekaaHFace
namespace Go.Proofs.Ytclhmlgbhlmekaa
open Go.RowKit
set_option linter.unusedVariables false
set_option linter.unusedSimpArgs false
section
variable {S : Nat → Prop} {W : World} {b : Nat} {A : Option Addr} {n c : Nat} {vs : Nat → Value} {M : List Thing}
set_option maxRecDepth 20000 in
set_option maxHeartbeats 4000000 in
theorem down_st {w : World} {l : List WN} (hv : ∀ k, (vs k).oneCell' = true) (h : St S W w (hpT b A n c vs l M)) (hl : l.length = n) (hn : n ≤ 1000000) (i0 m f : Nat) (hi : i0 < n) (hm : m ≤ n) (hf : m ≤ i0 + f) :
    Calls Try.prog 40 #[hpV b, .int .i64 i0, .int .i64 m] w fun e w' => (∃ r, e = .returned (.bool r)) ∧ St S W w' (hpT b A n c vs (hdown f l i0 m) M) := by
  generalize hR : hdown f l i0 m = R
  have HR := Lib.hid hR
  clear hR
  go_enter Try.func40, Try.ntmps40
  go_wp2_with fail
  go_loopw [7] (fun v7 wr => ∃ (i : Nat) (l : List WN) (f : Nat), v7 = .int .i64 i ∧ i < n ∧ m ≤ i + f ∧ l.length = n ∧ Hid (hdown f l i m = R) ∧ St S W wr (hpT b A n c vs l M)) (fun v7 _ => n - (intOf v7).toNat)
  case atStart => exact ⟨i0, l, f, rfl, hi, hf, hl, HR, h⟩
  case round =>
    clear h hl HR hf
    obtain ⟨i, l, f, rfl, hi, hf, hl, HD, h⟩ := hrel
    by_cases h1 : m ≤ 2 * i + 1
    · have hz : (m : Int) ≤ 2 * (i : Int) + 1 := by omega
      have hD := HD.out
      rw [hdown_end f l i m h1] at hD
      have HD2 := Lib.hid hD
      clear hD HD h1
      go_wp2_with fail
      go_ret
      rw [← HD2.out]
      exact ⟨⟨_, rfl⟩, h⟩
    · obtain ⟨f, rfl⟩ : ∃ g, f = g + 1 := ⟨f - 1, by omega⟩
      have hz : ¬ (m : Int) ≤ 2 * (i : Int) + 1 := by omega
      have hD := HD.out
      rw [hdown, if_neg h1] at hD
      by_cases h2 : 2 * i + 2 < m
      · have hz2 : 2 * (i : Int) + 1 + 1 < (m : Int) := by omega
        have HL := Lib.hid (hp_less h hl hn (2 * i + 2) (2 * i + 1) (2 * (i : Int) + 1 + 1) (2 * (i : Int) + 1) (by omega) (by omega) (by omega) (by omega))
        have hmL := meth_less b _ wr (hp_cell h)
        generalize hb : wlt (hget l (2 * i + 2)) (hget l (2 * i + 1)) = q at HL
        have HB := Lib.hid hb
        clear hb h
        go_wp2_with fail
        refine HL.out.mono ?_
        rintro e w1 ⟨rfl, h⟩
        clear hmL HL
        cases q with
        | true =>
          have HC : Hid (hchild l i m = 2 * i + 2) := Lib.hid (by unfold hchild; rw [if_pos ⟨h2, HB.out⟩])
          clear HB
          have HL := Lib.hid (hp_less h hl hn (2*i+2) i (2*(i:Int)+1+1) (i : Int) (by omega) (by omega) (by omega) (by omega))
          have hmL := meth_less b _ _ (hp_cell h)
          generalize hb : wlt (hget l (2*i+2)) (hget l i) = q at HL
          have HB := Lib.hid hb
          clear hb
          go_wp2_with fail
          refine HL.out.mono ?_
          rintro e w2 ⟨rfl, h2⟩
          clear hmL HL h
          cases q with
          | false =>
            rw [HC.out, HB.out, if_neg (by simp)] at hD
            have HD2 := Lib.hid hD
            clear hD HB HC HD
            go_wp2_with fail
            go_ret
            rw [← HD2.out]
            exact ⟨⟨_, rfl⟩, h2⟩
          | true =>
            rw [HC.out, HB.out, if_pos rfl] at hD
            have HD2 := Lib.hid hD
            have HS := Lib.hid (hp_swap hv h2 hl hn i (2*i+2) (i : Int) (2*(i:Int)+1+1) (by omega) (by omega) (by omega) (by omega))
            have hmS := meth_swap b _ w2 (hp_cell h2)
            clear hD HB HC HD h2
            go_wp2_with fail
            refine HS.out.mono ?_
            rintro e w3 ⟨rfl, h3⟩
            clear hmS HS
            go_wp2_with fail
            go_roundw
            case rel => first | exact ⟨(2*i+2), hswap l i (2*i+2), f, by go_num, by omega, by omega, by rw [hswap_len]; exact hl, HD2, h3⟩ | ((repeat apply Exists.intro); exact ⟨⟨(2*i+2), hswap l i (2*i+2), f, by go_num, by omega, by omega, by rw [hswap_len]; exact hl, HD2, h3⟩, rfl⟩)
            case measure => first | (simp [intOf]; done) | (simp [intOf]; omega)
        | false =>
          have HC : Hid (hchild l i m = 2 * i + 1) := Lib.hid (by unfold hchild; rw [if_neg (fun h => by rw [HB.out] at h; cases h.2)])
          clear HB
          have HL := Lib.hid (hp_less h hl hn (2*i+1) i (2*(i:Int)+1) (i : Int) (by omega) (by omega) (by omega) (by omega))
          have hmL := meth_less b _ _ (hp_cell h)
          generalize hb : wlt (hget l (2*i+1)) (hget l i) = q at HL
          have HB := Lib.hid hb
          clear hb
          go_wp2_with fail
          refine HL.out.mono ?_
          rintro e w2 ⟨rfl, h2⟩
          clear hmL HL h
          cases q with
          | false =>
            rw [HC.out, HB.out, if_neg (by simp)] at hD
            have HD2 := Lib.hid hD
            clear hD HB HC HD
            go_wp2_with fail
            go_ret
            rw [← HD2.out]
            exact ⟨⟨_, rfl⟩, h2⟩
          | true =>
            rw [HC.out, HB.out, if_pos rfl] at hD
            have HD2 := Lib.hid hD
            have HS := Lib.hid (hp_swap hv h2 hl hn i (2*i+1) (i : Int) (2*(i:Int)+1) (by omega) (by omega) (by omega) (by omega))
            have hmS := meth_swap b _ w2 (hp_cell h2)
            clear hD HB HC HD h2
            go_wp2_with fail
            refine HS.out.mono ?_
            rintro e w3 ⟨rfl, h3⟩
            clear hmS HS
            go_wp2_with fail
            go_roundw
            case rel => first | exact ⟨(2*i+1), hswap l i (2*i+1), f, by go_num, by omega, by omega, by rw [hswap_len]; exact hl, HD2, h3⟩ | ((repeat apply Exists.intro); exact ⟨⟨(2*i+1), hswap l i (2*i+1), f, by go_num, by omega, by omega, by rw [hswap_len]; exact hl, HD2, h3⟩, rfl⟩)
            case measure => first | (simp [intOf]; done) | (simp [intOf]; omega)
      · have hz2 : ¬ 2 * (i : Int) + 1 + 1 < (m : Int) := by omega
        have HC : Hid (hchild l i m = 2 * i + 1) := Lib.hid (by unfold hchild; rw [if_neg (fun h => h2 h.1)])
        have HL := Lib.hid (hp_less h hl hn (2*i+1) i (2*(i:Int)+1) (i : Int) (by omega) (by omega) (by omega) (by omega))
        have hmL := meth_less b _ _ (hp_cell h)
        generalize hb : wlt (hget l (2*i+1)) (hget l i) = q at HL
        have HB := Lib.hid hb
        clear hb
        go_wp2_with fail
        refine HL.out.mono ?_
        rintro e w2 ⟨rfl, h2⟩
        clear hmL HL h
        cases q with
        | false =>
          rw [HC.out, HB.out, if_neg (by simp)] at hD
          have HD2 := Lib.hid hD
          clear hD HB HC HD
          go_wp2_with fail
          go_ret
          rw [← HD2.out]
          exact ⟨⟨_, rfl⟩, h2⟩
        | true =>
          rw [HC.out, HB.out, if_pos rfl] at hD
          have HD2 := Lib.hid hD
          have HS := Lib.hid (hp_swap hv h2 hl hn i (2*i+1) (i : Int) (2*(i:Int)+1) (by omega) (by omega) (by omega) (by omega))
          have hmS := meth_swap b _ w2 (hp_cell h2)
          clear hD HB HC HD h2
          go_wp2_with fail
          refine HS.out.mono ?_
          rintro e w3 ⟨rfl, h3⟩
          clear hmS HS
          go_wp2_with fail
          go_roundw
          case rel => first | exact ⟨(2*i+1), hswap l i (2*i+1), f, by go_num, by omega, by omega, by rw [hswap_len]; exact hl, HD2, h3⟩ | ((repeat apply Exists.intro); exact ⟨⟨(2*i+1), hswap l i (2*i+1), f, by go_num, by omega, by omega, by rw [hswap_len]; exact hl, HD2, h3⟩, rfl⟩)
          case measure => first | (simp [intOf]; done) | (simp [intOf]; omega)
end
end Go.Proofs.Ytclhmlgbhlmekaa
