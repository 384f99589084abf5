/- Layer 7's laws: HuffReads. -/
import Derived.Test.YtclhmlgbhlmekaaHh
import Derived.Test.YtclhmlgbhlmekaaHRefK
namespace Go.Proofs.Ytclhmlgbhlmekaa
open Go.RowKit
set_option linter.unusedVariables false
set_option linter.unusedSimpArgs false
set_option linter.unusedSectionVars false
theorem reads_cases (l : List UInt8) (most : Int) (hm : 0 ≤ most) :
    ((vrd l 0).2.1 ≠ 0 ∧ unpackP l most = ([], 3)) ∨ ((vrd l 0).2.1 = 0 ∧ most < ((vrd l 0).1 : Nat) ∧ unpackP l most = ([], 4)) ∨
    ((vrd l 0).2.1 = 0 ∧ ¬ most < ((vrd l 0).1 : Nat) ∧ unpackP l most = ([], 3)) ∨
    ((vrd l 0).2.1 = 0 ∧ ¬ most < ((vrd l 0).1 : Nat) ∧ ∃ t, unpackP l most = (t, 0) ∧ (t.length : Int) ≤ most ∧ packP t = l) := by
  unfold unpackP
  rw [if_neg (by omega)]
  by_cases h1 : (vrd l 0).2.1 ≠ 0
  · exact .inl ⟨h1, by rw [if_pos h1]⟩
  rw [if_neg h1]
  have h1' : (vrd l 0).2.1 = 0 := by omega
  by_cases h2 : most.toNat < (vrd l 0).1
  · exact .inr (.inl ⟨h1', by omega, by rw [if_pos h2]⟩)
  rw [if_neg h2]
  have h2' : ¬ most < ((vrd l 0).1 : Nat) := by omega
  cases h3 : readP l (vrd l 0).2.2 (vrd l 0).1 with
  | none => exact .inr (.inr (.inl ⟨h1', h2', rfl⟩))
  | some t =>
    have h4 := (readP_len h3).1
    by_cases h5 : packP t = l
    · exact .inr (.inr (.inr ⟨h1', h2', t, by show (if _ then _ else _) = _; rw [if_pos h5], by omega, h5⟩))
    · exact .inr (.inr (.inl ⟨h1', h2', by show (if _ then _ else _) = _; rw [if_neg h5]⟩))
set_option maxRecDepth 20000 in
set_option maxHeartbeats 2000000 in
theorem huffReads_walk (s : ByteArray) (most : Int) (hps : s.size ≤ 140737488351232) (hm : -9223372036854775808 ≤ most ∧ most < 9223372036854775808) (w : World) :
    Calls Try.prog 7 #[.string s, .int .i64 most] w fun e w' => e = .returned (.bool true) ∧ Ext w w' := by
  have HA := Lib.hid hawake_any
  by_cases h0 : s.size ≤ 1000
  · have hn : ¬ (1000 : Int) < (s.size : Int) := by omega
    by_cases h00 : most ≤ 3000
    · have hn2 : ¬ (3000 : Int) < most := by omega
      have HU := Lib.hid (fun w => unpack_any s (by omega) most hm w)
      have HR : Hid (∀ w : World, Calls Try.prog 22 #[.string s, .int .i64 0] w fun e w' => e = .returned (.tuple #[.int .u64 (vrd s.data.toList 0).1, .int .i64 (vrd s.data.toList 0).2.1, .int .i64 (vrd s.data.toList 0).2.2]) ∧ w = w') := Lib.hid (fun w => rread_any s 0 hps (Nat.zero_le _) w)
      obtain ⟨ts, hts⟩ : ∃ ts : ByteArray, ts = ⟨(unpackP s.data.toList most).1.toArray⟩ := ⟨_, rfl⟩
      rw [← hts] at HU
      by_cases hneg : most < 0
      · have e : unpackP s.data.toList most = ([], 1) := by unfold unpackP; rw [if_pos hneg]
        rw [e] at hts HU
        have ht : ts.toList = [] := by rw [hts, ByteArray.toList_eq]
        generalize vrd s.data.toList 0 = V at HR
        clear hts e
        go_enter Try.func7, Try.ntmps7
        go_wp2_with fail
        refine (HA.out w).mono ?_
        rintro _ w1 ⟨rfl, x1⟩
        go_wp2_with fail
        refine (HU.out w1).mono ?_
        rintro _ w2 ⟨rfl, x2⟩
        go_wp2_with fail
        refine (HR.out w2).mono ?_
        rintro _ w3 ⟨rfl, rfl⟩
        go_wp2_with fail
        go_ret
        exact ⟨rfl, x1.trans x2⟩
      · have hw : IntKind.u64.wrap most = most := by rw [IntKind.wrap_u64]; omega
        rcases reads_cases s.data.toList most (by omega) with ⟨h1, e⟩ | ⟨h1, h2, e⟩ | ⟨h1, h2, e⟩ | ⟨h1, h2, t, e, h3, h4⟩
        · rw [e] at hts HU
          have ht : ts.toList = [] := by rw [hts, ByteArray.toList_eq]
          generalize vrd s.data.toList 0 = V at HR h1
          obtain ⟨n, k, j⟩ := V
          have hk : (((k : Nat) : Int) == 0) = false := by
            rw [beq_eq_false_iff_ne]; intro c; exact h1 (by show k = 0; omega)
          clear hts e h1
          go_enter Try.func7, Try.ntmps7
          go_wp2_with fail
          refine (HA.out w).mono ?_
          rintro _ w1 ⟨rfl, x1⟩
          go_wp2_with fail
          refine (HU.out w1).mono ?_
          rintro _ w2 ⟨rfl, x2⟩
          go_wp2_with fail
          refine (HR.out w2).mono ?_
          rintro _ w3 ⟨rfl, rfl⟩
          go_wp2_with fail
          go_ret
          exact ⟨rfl, x1.trans x2⟩
        · rw [e] at hts HU
          have ht : ts.toList = [] := by rw [hts, ByteArray.toList_eq]
          generalize vrd s.data.toList 0 = V at HR h1 h2
          obtain ⟨n, k, j⟩ := V
          obtain rfl : k = 0 := h1
          clear hts e
          go_enter Try.func7, Try.ntmps7
          go_wp2_with fail
          refine (HA.out w).mono ?_
          rintro _ w1 ⟨rfl, x1⟩
          go_wp2_with fail
          refine (HU.out w1).mono ?_
          rintro _ w2 ⟨rfl, x2⟩
          go_wp2_with fail
          refine (HR.out w2).mono ?_
          rintro _ w3 ⟨rfl, rfl⟩
          go_wp2_with fail
          go_ret
          exact ⟨rfl, x1.trans x2⟩
        · rw [e] at hts HU
          have ht : ts.toList = [] := by rw [hts, ByteArray.toList_eq]
          generalize vrd s.data.toList 0 = V at HR h1 h2
          obtain ⟨n, k, j⟩ := V
          obtain rfl : k = 0 := h1
          clear hts e
          go_enter Try.func7, Try.ntmps7
          go_wp2_with fail
          refine (HA.out w).mono ?_
          rintro _ w1 ⟨rfl, x1⟩
          go_wp2_with fail
          refine (HU.out w1).mono ?_
          rintro _ w2 ⟨rfl, x2⟩
          go_wp2_with fail
          refine (HR.out w2).mono ?_
          rintro _ w3 ⟨rfl, rfl⟩
          go_wp2_with fail
          go_ret
          exact ⟨rfl, x1.trans x2⟩
        · rw [e] at hts HU
          have htl : ts.data.toList = t := by rw [hts]
          have htz : ts.size = t.length := by rw [← htl]; simp
          have hsp : (⟨(packP ts.data.toList).toArray⟩ : ByteArray) = s := by rw [htl, h4]
          have hle : (ts.size : Int) ≤ most := by rw [htz]; exact h3
          generalize vrd s.data.toList 0 = V at HR h1 h2
          obtain ⟨n, k, j⟩ := V
          obtain rfl : k = 0 := h1
          have h56 := lenT_text (l := ts.data.toList) (by rw [htl]; omega)
          by_cases h6 : ts.size ≤ 600
          · have h6' : (ts.size : Int) ≤ 600 := by omega
            have HK := Lib.hid (fun w => rpack_any ts (by omega) w)
            rw [hsp] at HK
            clear hts e htl htz hsp h56 h3 h4
            go_enter Try.func7, Try.ntmps7
            go_wp2_with fail
            refine (HA.out w).mono ?_
            rintro _ w1 ⟨rfl, x1⟩
            go_wp2_with fail
            refine (HU.out w1).mono ?_
            rintro _ w2 ⟨rfl, x2⟩
            go_wp2_with fail
            refine (HR.out w2).mono ?_
            rintro _ w3 ⟨rfl, rfl⟩
            go_wp2_with fail
            refine (HK.out w2).mono ?_
            rintro _ w4 ⟨rfl, x4⟩
            go_wp2_with fail
            go_ret
            exact ⟨rfl, (x1.trans x2).trans x4⟩
          · have h6' : ¬ (ts.size : Int) ≤ 600 := by omega
            have h7' : (600 : Int) < (ts.size : Int) := by omega
            have HK := Lib.hid (fun w => pack_any ts (by omega) (fun i => by have := h56 i; omega) w)
            rw [hsp] at HK
            clear hts e htl htz hsp h56 h3 h4
            go_enter Try.func7, Try.ntmps7
            go_wp2_with fail
            refine (HA.out w).mono ?_
            rintro _ w1 ⟨rfl, x1⟩
            go_wp2_with fail
            refine (HU.out w1).mono ?_
            rintro _ w2 ⟨rfl, x2⟩
            go_wp2_with fail
            refine (HR.out w2).mono ?_
            rintro _ w3 ⟨rfl, rfl⟩
            go_wp2_with fail
            refine (HK.out w2).mono ?_
            rintro _ w4 ⟨rfl, x4⟩
            go_wp2_with fail
            go_ret
            exact ⟨rfl, (x1.trans x2).trans x4⟩
    · have hn2 : (3000 : Int) < most := by omega
      go_enter Try.func7, Try.ntmps7
      go_wp2_with fail
      refine (HA.out w).mono ?_
      rintro _ w1 ⟨rfl, x1⟩
      go_wp2_with fail
      refine (HA.out w1).mono ?_
      rintro _ w2 ⟨rfl, x2⟩
      go_wp2_with fail
      go_ret
      exact ⟨rfl, x1.trans x2⟩
  · have hn : (1000 : Int) < (s.size : Int) := by omega
    go_enter Try.func7, Try.ntmps7
    go_wp2_with fail
    refine (HA.out w).mono ?_
    rintro _ w1 ⟨rfl, x1⟩
    go_wp2_with fail
    refine (HA.out w1).mono ?_
    rintro _ w2 ⟨rfl, x2⟩
    go_wp2_with fail
    go_ret
    exact ⟨rfl, x1.trans x2⟩
end Go.Proofs.Ytclhmlgbhlmekaa
