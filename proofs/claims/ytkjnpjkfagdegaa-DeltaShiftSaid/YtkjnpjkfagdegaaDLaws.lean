/- Layer 3's laws: the walks. -/
import Derived.Test.YtkjnpjkfagdegaaDAwake
namespace Go.Proofs.Ytkjnpjkfagdegaa
open Go.RowKit
set_option linter.unusedVariables false
set_option linter.unusedSimpArgs false
theorem ArgRow.allLt {w : World} {A : Option Addr} {len : Nat} {l : List Nat} (h : ArgRow (repU .u64 18446744073709551616) 1 w A len l) : AllLt l := fun i hi => h.small i (by rw [← h.1]; exact hi)
set_option maxHeartbeats 2000000 in
theorem deltaZigs_walk (n : Int) (u : Nat) (m : Int) (hn : -9223372036854775808 ≤ n ∧ n < 9223372036854775808) (hu : u < 18446744073709551616) (hm : -9223372036854775808 ≤ m ∧ m < 9223372036854775808) (w : World) :
    Calls Try.prog 3 #[.int .i64 n, .int .u64 u, .int .i64 m] w fun e w' => e = .returned (.bool true) ∧ Ext w w' := by
  have hzn := zigI_lt n hn
  have hzu := zagI_lt u hu
  have e1 := zag_zig n
  have e2 := zig_zag u
  by_cases hsm : (0 ≤ n ∧ 0 ≤ m ∧ n < m ∨ n < 0 ∧ m < 0 ∧ m < n)
  · have hz : (zigI n : Int) < zigI m := by
      unfold zigI
      rcases hsm with ⟨h1, h2, h3⟩ | ⟨h1, h2, h3⟩
      · rw [if_pos h1, if_pos h2]; omega
      · rw [if_neg (by omega), if_neg (by omega)]; omega
    rcases hsm with ⟨h1, h2, h3⟩ | ⟨h1, h2, h3⟩
    · go_enter Try.func3, Try.ntmps3
      go_wp2_with (first
        | (go_at_call 8; refine (dawake_any _).mono ?_; rintro e w1 ⟨rfl, x1⟩)
        | (go_at_call 9; refine (zig_any _ (by first | exact hn | exact hm | exact hzu) _).mono ?_; rintro e w2 ⟨rfl, rfl⟩)
        | (go_at_call 10; refine (rzig_any _ hn _).mono ?_; rintro e w2 ⟨rfl, rfl⟩)
        | (go_at_call 11; refine (zag_any _ (by first | exact hu | exact hzn) _).mono ?_; rintro e w2 ⟨rfl, rfl⟩))
      go_ret
      exact ⟨rfl, x1⟩
    · have h1' : ¬ 0 ≤ n := by omega
      have h2' : ¬ 0 ≤ m := by omega
      have h3' : ¬ n < m := by omega
      go_enter Try.func3, Try.ntmps3
      go_wp2_with (first
        | (go_at_call 8; refine (dawake_any _).mono ?_; rintro e w1 ⟨rfl, x1⟩)
        | (go_at_call 9; refine (zig_any _ (by first | exact hn | exact hm | exact hzu) _).mono ?_; rintro e w2 ⟨rfl, rfl⟩)
        | (go_at_call 10; refine (rzig_any _ hn _).mono ?_; rintro e w2 ⟨rfl, rfl⟩)
        | (go_at_call 11; refine (zag_any _ (by first | exact hu | exact hzn) _).mono ?_; rintro e w2 ⟨rfl, rfl⟩))
      go_ret
      exact ⟨rfl, x1⟩
  · rcases (show (0 ≤ n ∧ 0 ≤ m ∧ ¬ n < m) ∨ (0 ≤ n ∧ m < 0) ∨ (n < 0 ∧ 0 ≤ m) ∨ (n < 0 ∧ m < 0 ∧ ¬ m < n) by omega) with ⟨h1, h2, h3⟩ | ⟨h1, h2⟩ | ⟨h1, h2⟩ | ⟨h1, h2, h3⟩
    · clear hsm
      go_enter Try.func3, Try.ntmps3
      go_wp2_with (first
        | (go_at_call 8; refine (dawake_any _).mono ?_; rintro e w1 ⟨rfl, x1⟩)
        | (go_at_call 9; refine (zig_any _ (by first | exact hn | exact hm | exact hzu) _).mono ?_; rintro e w2 ⟨rfl, rfl⟩)
        | (go_at_call 10; refine (rzig_any _ hn _).mono ?_; rintro e w2 ⟨rfl, rfl⟩)
        | (go_at_call 11; refine (zag_any _ (by first | exact hu | exact hzn) _).mono ?_; rintro e w2 ⟨rfl, rfl⟩))
      go_ret
      exact ⟨rfl, x1⟩
    · have h2' : ¬ 0 ≤ m := by omega
      have h3' : ¬ n < 0 := by omega
      clear hsm
      go_enter Try.func3, Try.ntmps3
      go_wp2_with (first
        | (go_at_call 8; refine (dawake_any _).mono ?_; rintro e w1 ⟨rfl, x1⟩)
        | (go_at_call 9; refine (zig_any _ (by first | exact hn | exact hm | exact hzu) _).mono ?_; rintro e w2 ⟨rfl, rfl⟩)
        | (go_at_call 10; refine (rzig_any _ hn _).mono ?_; rintro e w2 ⟨rfl, rfl⟩)
        | (go_at_call 11; refine (zag_any _ (by first | exact hu | exact hzn) _).mono ?_; rintro e w2 ⟨rfl, rfl⟩))
      go_ret
      exact ⟨rfl, x1⟩
    · have h1' : ¬ 0 ≤ n := by omega
      have h2' : ¬ m < 0 := by omega
      clear hsm
      go_enter Try.func3, Try.ntmps3
      go_wp2_with (first
        | (go_at_call 8; refine (dawake_any _).mono ?_; rintro e w1 ⟨rfl, x1⟩)
        | (go_at_call 9; refine (zig_any _ (by first | exact hn | exact hm | exact hzu) _).mono ?_; rintro e w2 ⟨rfl, rfl⟩)
        | (go_at_call 10; refine (rzig_any _ hn _).mono ?_; rintro e w2 ⟨rfl, rfl⟩)
        | (go_at_call 11; refine (zag_any _ (by first | exact hu | exact hzn) _).mono ?_; rintro e w2 ⟨rfl, rfl⟩))
      go_ret
      exact ⟨rfl, x1⟩
    · have h1' : ¬ 0 ≤ n := by omega
      have h2' : ¬ 0 ≤ m := by omega
      clear hsm
      go_enter Try.func3, Try.ntmps3
      go_wp2_with (first
        | (go_at_call 8; refine (dawake_any _).mono ?_; rintro e w1 ⟨rfl, x1⟩)
        | (go_at_call 9; refine (zig_any _ (by first | exact hn | exact hm | exact hzu) _).mono ?_; rintro e w2 ⟨rfl, rfl⟩)
        | (go_at_call 10; refine (rzig_any _ hn _).mono ?_; rintro e w2 ⟨rfl, rfl⟩)
        | (go_at_call 11; refine (zag_any _ (by first | exact hu | exact hzn) _).mono ?_; rintro e w2 ⟨rfl, rfl⟩))
      go_ret
      exact ⟨rfl, x1⟩
/-- m numbers that a call owns -/
abbrev mlT (v : Value) (m : Nat) (l : List Nat) : Thing := ownT 22 1 v m (numsV l)
section
variable {S : Nat → Prop} {W w : World} {M : List Thing}
theorem deltas_m (h : St S W w M) (A : Option Addr) (ca : Nat) (l : List Nat) (m : Nat) (hm : l.length = m) (hl : m ≤ 1000000) (hr : NRow w A l) (ha : AllLt l) :
    Calls Try.prog 12 #[.slice A m ca] w fun e w' => ∃ A' c', e = .returned (.slice A' m c') ∧ St S W w' (mlT (.slice A' m c') m (deltas l) :: M) := by
  subst hm
  refine (deltas_st h A ca l hl hr ha).mono ?_
  rintro e w' ⟨g, rfl, h2, _⟩
  unfold nlT at h2
  rw [deltas_len] at h2
  exact ⟨_, _, rfl, h2⟩
theorem sums_m (h : St S W w M) (A : Option Addr) (ca : Nat) (l : List Nat) (m : Nat) (hm : l.length = m) (hl : m ≤ 1000000) (hr : NRow w A l) (ha : AllLt l) :
    Calls Try.prog 13 #[.slice A m ca] w fun e w' => ∃ A' c', e = .returned (.slice A' m c') ∧ St S W w' (mlT (.slice A' m c') m (sums l) :: M) := by
  subst hm
  refine (sums_st h A ca l hl hr ha).mono ?_
  rintro e w' ⟨g, rfl, h2, _⟩
  unfold nlT at h2
  rw [sums_len] at h2
  exact ⟨_, _, rfl, h2⟩
theorem rdeltas_m (h : St S W w M) (A : Option Addr) (ca : Nat) (l : List Nat) (m : Nat) (hm : l.length = m) (hl : m ≤ 1000000) (hr : NRow w A l) (ha : AllLt l) :
    Calls Try.prog 15 #[.slice A m ca] w fun e w' => ∃ A' c', e = .returned (.slice A' m c') ∧ St S W w' (mlT (.slice A' m c') m (deltas l) :: M) := by
  subst hm
  refine (rdeltas_st h A ca l hl hr ha).mono ?_
  rintro e w' ⟨v, rfl, h2, _⟩
  unfold nlT at h2
  rw [deltas_len] at h2
  obtain ⟨A', c', rfl⟩ := h2.own.form
  exact ⟨_, _, rfl, h2⟩
theorem rsums_m (h : St S W w M) (A : Option Addr) (ca : Nat) (l : List Nat) (m : Nat) (hm : l.length = m) (hl : m ≤ 1000000) (hr : NRow w A l) (ha : AllLt l) :
    Calls Try.prog 16 #[.slice A m ca] w fun e w' => ∃ A' c', e = .returned (.slice A' m c') ∧ St S W w' (mlT (.slice A' m c') m (sums l) :: M) := by
  subst hm
  refine (rsums_st h A ca l hl hr ha).mono ?_
  rintro e w' ⟨v, rfl, h2, _⟩
  unfold nlT at h2
  rw [sums_len] at h2
  obtain ⟨A', c', rfl⟩ := h2.own.form
  exact ⟨_, _, rfl, h2⟩
theorem nsame_m (h : St S W w M) (A B : Option Addr) (ca cb : Nat) (L N : List Nat) (m : Nat) (hL : L.length = m) (hN : N.length = m) (hm : m ≤ 1000000) (ha : NRow w A L) (hb : NRow w B N) (he : L = N) :
    Calls Try.prog 14 #[.slice A m ca, .slice B m cb] w fun e w' => e = .returned (.bool true) ∧ St S W w' M := by
  subst he
  subst hL
  refine (nsame_any A B ca cb L L w ha hb (by omega) (by omega)).mono ?_
  rintro e w' ⟨rfl, x⟩
  exact ⟨by simp, h.ext x⟩
end
set_option maxRecDepth 20000 in
set_option maxHeartbeats 4000000 in
theorem deltaBack_walk (A : Option Addr) (ca : Nat) (l : List Nat) (w : World) (ra : ArgRow (repU .u64 18446744073709551616) 1 w A l.length l) (hpa : l.length ≤ 9223372036854775807) :
    Calls Try.prog 4 #[.slice A l.length ca] w fun e w' => e = .returned (.bool true) ∧ Ext w w' := by
  have ha := ra.allLt
  have hr := ra.nrow
  obtain ⟨m, hm⟩ : ∃ m, m = l.length := ⟨_, rfl⟩
  by_cases h0 : m ≤ 300
  · rw [← hm]
    clear hpa
    have HM := Lib.hid hm
    clear hm
    go_enter Try.func4, Try.ntmps4
    go_wp2_with (first
      | (go_at_call 8; refine (dawake_any _).mono ?_; rintro e w1 ⟨rfl, x1⟩; have h := ((St.start noB w).ext x1).made 22 1 0 0 #[] (by omega) (by unfold maxLen; omega) rfl)
      | (at_builtin; refine wpList_pushAll rfl _ _ _ rfl 22 (.int .u64 0) 1 8 Try.underlying27 u64_info rfl (by decide) h h A m ca (numsV l) rfl rfl (by rw [numsV_len]; have := HM.out; omega) (by intro e; have := hr.none e; have := HM.out; omega) (hr.ext h.ends).cells (numsV_one l) (by unfold maxLen; omega) (by omega) ?_; intro A2 c2 w2 h2 g2))
    have hl : l.length = m := HM.out.symm
    have hdl : (deltas l).length = m := by rw [deltas_len]; exact hl
    have hsl : (sums l).length = m := by rw [sums_len]; exact hl
    have HL := Lib.hid (And.intro hl (And.intro hdl hsl))
    have E1 := Lib.hid (sums_deltas l ha)
    have E2 := Lib.hid (deltas_sums l ha)
    have HDA := Lib.hid (deltas_lt l ha)
    have HSA := Lib.hid (sums_lt l)
    have hmm : m ≤ 1000000 := by omega
    clear hl hdl hsl h g2
    have h3 : St noB w w2 [mlT (.slice A2 m c2) m l] := by simpa using h2
    clear h2
    refine (deltas_m h3 A2 c2 l m HL.out.1 hmm (Own.nrow h3.own HL.out.1) ha).mono ?_
    rintro e w3 ⟨A3, c3, rfl, h4⟩
    have h5 := h4.swap.drop.made 22 1 0 0 #[] (by omega) (by unfold maxLen; omega) rfl
    clear h3 h4
    go_wp2_with (at_builtin; refine wpList_pushAll rfl _ _ _ rfl 22 (.int .u64 0) 1 8 Try.underlying27 u64_info rfl (by decide) h5 h5 A m ca (numsV l) rfl rfl (by rw [numsV_len, Nat.mul_one]; exact HL.out.1) (by intro e; rw [← HL.out.1]; exact hr.none e) (hr.ext h5.ends).cells (numsV_one l) (by unfold maxLen; omega) (by omega) ?_; intro A4 c4 w4 h6 g6)
    have h7 : St noB w w4 [mlT (.slice A4 m c4) m l, mlT (.slice A3 m c3) m (deltas l)] := by simpa using h6
    clear h5 h6 g6
    refine (sums_m h7 A4 c4 l m HL.out.1 hmm (Own.nrow h7.own HL.out.1) ha).mono ?_
    rintro e w5 ⟨A5, c5, rfl, h8⟩
    have h9 := h8.swap.drop
    clear h7 h8
    go_wp2_with fail
    refine (rdeltas_m h9 A ca l m HL.out.1 hmm (hr.ext h9.ends) ha).mono ?_
    rintro e w6 ⟨A6, c6, rfl, h10⟩
    clear h9
    go_wp2_with fail
    refine (nsame_m h10 A3 A6 c3 c6 _ _ m HL.out.2.1 HL.out.2.1 hmm (Own.nrow (h10.pull 2).own HL.out.2.1) (Own.nrow h10.own HL.out.2.1) rfl).mono ?_
    rintro e w7 ⟨rfl, h11⟩
    have h11 := h11.drop
    clear h10
    go_wp2_with fail
    refine (sums_m h11 A3 c3 (deltas l) m HL.out.2.1 hmm (Own.nrow h11.swap.own HL.out.2.1) HDA.out).mono ?_
    rintro e w8 ⟨A8, c8, rfl, h12⟩
    rw [E1.out] at h12
    clear h11
    go_wp2_with fail
    refine (nsame_m h12 A8 A c8 ca _ _ m HL.out.1 HL.out.1 hmm (Own.nrow h12.own HL.out.1) (hr.ext h12.ends) rfl).mono ?_
    rintro e w9 ⟨rfl, h13⟩
    have h13 := h13.drop
    clear h12
    go_wp2_with fail
    refine (rsums_m h13 A ca l m HL.out.1 hmm (hr.ext h13.ends) ha).mono ?_
    rintro e w10 ⟨A10, c10, rfl, h14⟩
    clear h13
    go_wp2_with fail
    refine (nsame_m h14 A5 A10 c5 c10 _ _ m HL.out.2.2 HL.out.2.2 hmm (Own.nrow h14.swap.own HL.out.2.2) (Own.nrow h14.own HL.out.2.2) rfl).mono ?_
    rintro e w11 ⟨rfl, h15⟩
    have h15 := h15.drop
    clear h14
    go_wp2_with fail
    refine (deltas_m h15 A5 c5 (sums l) m HL.out.2.2 hmm (Own.nrow h15.own HL.out.2.2) HSA.out).mono ?_
    rintro e w12 ⟨A12, c12, rfl, h16⟩
    rw [E2.out] at h16
    clear h15
    go_wp2_with fail
    refine (nsame_m h16 A12 A c12 ca _ _ m HL.out.1 HL.out.1 hmm (Own.nrow h16.own HL.out.1) (hr.ext h16.ends) rfl).mono ?_
    rintro e w13 ⟨rfl, h17⟩
    clear h16
    go_wp2_with fail
    go_ret
    exact ⟨rfl, h17.ends⟩
  · rw [← hm]
    clear ra hr
    rw [← hm] at hpa
    clear hm
    go_enter Try.func4, Try.ntmps4
    go_wp2_with (go_at_call 8; refine (dawake_any _).mono ?_; rintro e w1 ⟨rfl, x1⟩)
    go_ret
    exact ⟨rfl, Mut.trans (by assumption) x1⟩
end Go.Proofs.Ytkjnpjkfagdegaa
