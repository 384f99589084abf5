/- OctetParts: the walk. -/
import Derived.Test.YtdgoaojojebpmaaAwake
import Derived.Test.YtdgoaojojebpmaaOct
namespace Go.Proofs.Ytdgoaojojebpmaa
open Go.RowKit
set_option linter.unusedVariables false
set_option linter.unusedSimpArgs false

theorem extract_all (s : ByteArray) : s.extract 0 (0 + s.size) = s := by simp
set_option maxRecDepth 20000 in
set_option maxHeartbeats 2000000 in
theorem octetParts_walk (s : ByteArray) (n : Int) (hs0 : s.size ≤ 140737488351232) (hn : -9223372036854775808 ≤ n ∧ n < 9223372036854775808) (w : World) :
    Calls Try.prog 7 #[.string s, .int .i64 n] w fun e w' => e = .returned (.bool true) ∧ Ext w w' := by
  have hs : s.size ≤ maxLen := by unfold maxLen; omega
  by_cases hl : s.size ≤ 2000
  · by_cases h0 : n < 0
    · go_enter Try.func7, Try.ntmps7
      go_wp2_with fail
      refine (awake_any _).mono ?_
      rintro e w1 ⟨rfl, x1⟩
      have h1 := (St.start noB w).ext x1
      clear x1
      go_wp2_with fail
      refine (new_st h1 s).mono ?_
      rintro e w2 ⟨rfl, h2⟩
      go_wp2_with fail
      refine (new_st h2 s).mono ?_
      rintro e w3 ⟨rfl, h3⟩
      have h3 : St noB w w3 [rdT w1.heap.size s 0, rdT w2.heap.size s 0] := h3.swap
      go_wp2_with fail
      refine (take_neg_st h3 n h0).mono ?_
      rintro e w4 ⟨rfl, h4⟩
      go_wp2_with fail
      have c := take_st h4 hs s.size (by omega)
      rw [extract_all] at c
      refine c.mono ?_
      rintro e w5 ⟨rfl, h5⟩
      clear c
      go_wp2
      go_ret
      exact ⟨rfl, h5.ends⟩
    · by_cases h1 : n ≤ s.size
      · obtain ⟨m, rfl⟩ : ∃ m : Nat, n = m := ⟨n.toNat, by omega⟩
        have hm : m ≤ s.size := by omega
        have hd : decide (s.size < m) = false := by simp; omega
        have hd0 : decide ((m : Int) < 0) = false := by simp
        go_enter Try.func7, Try.ntmps7
        go_wp2_with fail
        refine (awake_any _).mono ?_
        rintro e w1 ⟨rfl, x1⟩
        have h1 := (St.start noB w).ext x1
        clear x1
        go_wp2_with fail
        refine (new_st h1 s).mono ?_
        rintro e w2 ⟨rfl, h2⟩
        go_wp2_with fail
        refine (new_st h2 s).mono ?_
        rintro e w3 ⟨rfl, h3⟩
        have h3 : St noB w w3 [rdT w1.heap.size s 0, rdT w2.heap.size s 0] := h3.swap
        go_wp2_with fail
        refine (take_st h3 hs m (by omega)).mono ?_
        rintro e w4 ⟨rfl, h4⟩
        have h4 : St noB w w4 [rdT w2.heap.size s 0, rdT w1.heap.size s (0 + m)] := h4.swap
        have hz : (s.extract 0 (0 + m)).size = m := by rw [ByteArray.size_extract]; omega
        obtain ⟨t, ht⟩ : ∃ t, t = s.extract 0 (0 + m) := ⟨_, rfl⟩
        rw [← ht] at hz ⊢
        have HT := Lib.hid ht
        clear ht h2 h3 h1
        go_wp2
        go_loopw [70] (fun vi wr => ∃ i : Nat, i ≤ m ∧ vi = .int .i64 i ∧ St noB w wr [rdT w2.heap.size s i, rdT w1.heap.size s (0 + m)]) (fun vi _ => m - (intOf vi).toNat)
        case atStart => exact ⟨0, by omega, rfl, h4⟩
        case round =>
          obtain ⟨i, hi, rfl, h⟩ := hrel
          by_cases hlt : i < m
          · have hit : i < t.size := by omega
            have hg : t[i] = s[i] := by
              have := extract_get s 0 m i (by omega) hlt
              simp only [Nat.zero_add] at this
              have e := HT.out
              simp only [Nat.zero_add] at e
              subst e; exact this
            go_wp2_with (go_at_call 10; refine (byte_st h hs (by omega)).mono ?_; rintro e w5 ⟨rfl, h5⟩)
            go_roundw
            case rel => first | exact ⟨i + 1, by omega, by go_num, h5⟩ | ((repeat apply Exists.intro); exact ⟨⟨i + 1, by omega, by go_num, h5⟩, rfl⟩)
            case measure => simp [intOf]; omega
          · obtain rfl : i = m := by omega
            have c1 := Lib.hid (at_any h.rd)
            have c2 := Lib.hid (at_any h.swap.rd)
            have e0 : ((0 + i : Nat) : Int) = (i : Int) := by omega
            go_wp2_with fail
            refine c2.out.mono ?_
            rintro e w5 ⟨rfl, rfl⟩
            go_wp2_with fail
            refine c1.out.mono ?_
            rintro e w5 ⟨rfl, rfl⟩
            go_wp2_with fail
            refine (left_any h.swap.rd (by omega) hs).mono ?_
            rintro e w6 ⟨rfl, x6⟩
            have h6 := h.ext x6
            go_wp2_with fail
            refine (left_any h6.rd (by omega) hs).mono ?_
            rintro e w7 ⟨rfl, x7⟩
            have h7 := h6.ext x7
            go_wp2
            go_ret
            exact ⟨rfl, h7.ends⟩
      · go_enter Try.func7, Try.ntmps7
        go_wp2_with fail
        refine (awake_any _).mono ?_
        rintro e w1 ⟨rfl, x1⟩
        have h1 := (St.start noB w).ext x1
        clear x1
        go_wp2_with fail
        refine (new_st h1 s).mono ?_
        rintro e w2 ⟨rfl, h2⟩
        go_wp2_with fail
        refine (new_st h2 s).mono ?_
        rintro e w3 ⟨rfl, h3⟩
        have h3 : St noB w w3 [rdT w1.heap.size s 0, rdT w2.heap.size s 0] := h3.swap
        go_wp2_with fail
        refine (take_end_st h3 (by omega) hs n (by omega) (by omega)).mono ?_
        rintro e w4 ⟨rfl, h4⟩
        go_wp2_with fail
        have c := take_st h4 hs s.size (by omega)
        rw [extract_all] at c
        refine c.mono ?_
        rintro e w5 ⟨rfl, h5⟩
        clear c
        have hd : decide (n < 0) = false := by simpa using h0
        go_wp2
        go_ret
        exact ⟨rfl, h5.ends⟩
  · go_enter Try.func7, Try.ntmps7
    go_wp2_with (go_at_call 8; refine (awake_any _).mono ?_; rintro e w1 ⟨rfl, hx⟩)
    go_ret
    refine ⟨rfl, ?_⟩
    (repeat (first | exact Mut.refl _ _ | assumption | apply Mut.alloc | apply Mut.drew | refine Mut.trans ?_ (After.ext _) | refine Mut.trans ?_ (by assumption)))
end Go.Proofs.Ytdgoaojojebpmaa
