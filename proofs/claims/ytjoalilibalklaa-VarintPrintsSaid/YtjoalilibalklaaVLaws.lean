/- Layer 2's laws: the walks. -/
import Derived.Test.YtjoalilibalklaaVAwake
namespace Go.Proofs.Ytjoalilibalklaa
open Go.RowKit
set_option linter.unusedVariables false
set_option linter.unusedSimpArgs false
theorem vbs_size (n : Nat) : (⟨(vb n).toArray⟩ : ByteArray).size = (vb n).length := rfl
set_option maxHeartbeats 2000000 in
theorem varintPrints_walk (n : Nat) (hn : n < 18446744073709551616) (w : World) :
    Calls Try.prog 3 #[.int .u64 n] w fun e w' => e = .returned (.bool true) ∧ Ext w w' := by
  have H1 := Lib.hid (fun w => vprint_any n hn w)
  have H2 := Lib.hid (fun w => rprint_any n hn w)
  have H3 := Lib.hid (fun w => vsize_any n hn w)
  have hz := vbs_size n
  rw [← hz] at H3
  generalize (⟨(vb n).toArray⟩ : ByteArray) = s at *
  clear hz
  go_enter Try.func3, Try.ntmps3
  go_wp2_with (first
    | (go_at_call 8; refine (H1.out _).mono ?_; rintro e w1 ⟨rfl, x1⟩)
    | (go_at_call 9; refine (vawake_any _).mono ?_; rintro e w2 ⟨rfl, x2⟩)
    | (go_at_call 10; refine (H2.out _).mono ?_; rintro e w3 ⟨rfl, x3⟩)
    | (go_at_call 11; refine (H3.out _).mono ?_; rintro e w4 ⟨rfl, rfl⟩))
  go_ret
  exact ⟨rfl, (x1.trans x2).trans x3⟩

set_option maxRecDepth 20000 in
set_option maxHeartbeats 4000000 in
theorem varintReads_walk (s : ByteArray) (at' : Int) (hs : s.size ≤ 140737488351232) (hat : -9223372036854775808 ≤ at' ∧ at' < 9223372036854775808) (w : World) :
    Calls Try.prog 4 #[.string s, .int .i64 at'] w fun e w' => e = .returned (.bool true) ∧ Ext w w' := by
  by_cases h0 : s.size ≤ 1000
  · -- what Take leaves
    have key : ∀ (b : Nat) (w1 : World), St noB w w1 [rdT b s 0] → ∃ a, a ≤ s.size ∧ Calls Try.prog 13 #[.pointer (some ⟨b, 0, none⟩), .int .i64 at'] w1 fun e w' => (∃ v, e = .returned v) ∧ St noB w w' [rdT b s a] := by
      intro b w1 h
      by_cases h1 : at' < 0
      · exact ⟨0, by omega, (take_neg_st h at' h1).mono fun e w' ⟨he, hw⟩ => ⟨⟨_, he⟩, hw⟩⟩
      · obtain ⟨k, rfl⟩ : ∃ k : Nat, at' = k := ⟨at'.toNat, by omega⟩
        by_cases h2 : k ≤ s.size
        · have := take_st h (by unfold maxLen; omega) k (by omega)
          rw [Nat.zero_add] at this
          exact ⟨k, h2, this.mono fun e w' ⟨he, hw⟩ => ⟨⟨_, he⟩, hw⟩⟩
        · exact ⟨0, by omega, (take_end_st h (by omega) (by unfold maxLen; omega) k (by omega) (by omega)).mono fun e w' ⟨he, hw⟩ => ⟨⟨_, he⟩, hw⟩⟩
    have KEY := Lib.hid key
    clear key
    go_enter Try.func4, Try.ntmps4
    go_wp2_with (first
      | (go_at_call 9; refine (vawake_any _).mono ?_; rintro e w1 ⟨rfl, x1⟩; have h := (St.start noB w).ext x1)
      | (go_at_call 12; refine (new_st h s).mono ?_; rintro e w2 ⟨rfl, h2⟩; obtain ⟨a, ha, hk⟩ := KEY.out _ _ h2; have HK := Lib.hid hk; clear hk KEY)
      | (go_at_call 13; refine HK.out.mono ?_; rintro e w3 ⟨⟨v3, rfl⟩, h3⟩; have HA := Lib.hid (at_any h3.rd); have HV := Lib.hid (vread_st h3 hs ha); have HW := Lib.hid (fun w => rread_any s a hs ha w); have HF := Lib.hid (vrd_facts s.data.toList a (by simpa using ha)); generalize vrd s.data.toList a = T at HV HW HF; obtain ⟨n, er, en⟩ := T; have hF := HF.out; simp only at hF HV HW)
      | (go_at_call 14; refine HA.out.mono ?_; rintro e w4 ⟨rfl, rfl⟩; clear HA)
      | (go_at_call 15; refine HV.out.mono ?_; rintro e w5 ⟨rfl, h5⟩; have HA5 := Lib.hid (at_any h5.rd))
      | (go_at_call 16; refine (HW.out _).mono ?_; rintro e w6 ⟨rfl, rfl⟩)
      | (go_at_call 14; refine HA5.out.mono ?_; rintro e w7 ⟨rfl, rfl⟩))
    go_ret
    exact ⟨rfl, h5.ends⟩
  · go_enter Try.func4, Try.ntmps4
    go_wp2_with (go_at_call 9; refine (vawake_any _).mono ?_; rintro e w1 ⟨rfl, x1⟩)
    go_ret
    exact ⟨rfl, Mut.trans (by assumption) x1⟩

set_option maxRecDepth 20000 in
set_option maxHeartbeats 4000000 in
theorem varintBack_walk (n : Nat) (more : ByteArray) (hn : n < 18446744073709551616) (hs : more.size ≤ 140737488351232) (w : World) :
    Calls Try.prog 5 #[.int .u64 n, .string more] w fun e w' => e = .returned (.bool true) ∧ Ext w w' := by
  by_cases h0 : more.size ≤ 200
  · have H1 := Lib.hid (fun w => vprint_any n hn w)
    have hz := vbs_size n
    have h10 := vb_len10 n hn
    have HB := Lib.hid (vrd_vb [] more.data.toList n hn)
    obtain ⟨t, ht⟩ : ∃ t : ByteArray, t = ⟨(vb n).toArray⟩ := ⟨_, rfl⟩
    have htl : t.data.toList = vb n := by rw [ht]
    have HT := Lib.hid (show (t ++ more).data.toList = [] ++ vb n ++ more.data.toList by rw [ByteArray.data_append, Array.toList_append, htl]; rfl)
    have hts : (t ++ more).size ≤ 210 := by rw [ByteArray.size_append, ht, hz]; omega
    rw [← ht] at H1 hz
    have htz : t.size ≤ 10 := by omega
    have HZ := Lib.hid hz
    clear ht htl hz h10
    go_enter Try.func5, Try.ntmps5
    go_wp2_with (first
      | (go_at_call 9; refine (vawake_any _).mono ?_; rintro e w1 ⟨rfl, x1⟩; have h := (St.start noB w).ext x1)
      | (go_at_call 8; refine (H1.out _).mono ?_; rintro e w2 ⟨rfl, x2⟩; have h2 := h.ext x2)
      | (go_at_call 12; refine (new_st h2 (t ++ more)).mono ?_; rintro e w3 ⟨rfl, h3⟩; have HV := Lib.hid (vread_st h3 (by omega) (by omega)); rw [HT.out, show (0 : Nat) = ([] : List UInt8).length from rfl, HB.out] at HV; simp only [List.length_nil, Nat.zero_add, ← HZ.out] at HV)
      | (go_at_call 15; refine HV.out.mono ?_; rintro e w5 ⟨rfl, h5⟩; have HA5 := Lib.hid (at_any h5.rd))
      | (go_at_call 14; refine HA5.out.mono ?_; rintro e w7 ⟨rfl, rfl⟩))
    go_ret
    exact ⟨rfl, h5.ends⟩
  · go_enter Try.func5, Try.ntmps5
    go_wp2_with (go_at_call 9; refine (vawake_any _).mono ?_; rintro e w1 ⟨rfl, x1⟩)
    go_ret
    exact ⟨rfl, Mut.trans (by assumption) x1⟩

theorem toList_ne {s t : ByteArray} (h : ¬ s = t) : (s.toList == t.toList) = false := by
  rw [beq_eq_false_iff_ne, ByteArray.toList_eq, ByteArray.toList_eq]
  intro h2
  exact h (ByteArray.ext (Array.toList_inj.1 h2))
theorem vbs_eq (a b : Nat) (ha : a < 18446744073709551616) (hb : b < 18446744073709551616) : ((⟨(vb a).toArray⟩ : ByteArray) = ⟨(vb b).toArray⟩) ↔ a = b := by
  constructor
  · intro h
    have h2 : vb a = vb b := by
      have := congrArg (fun x : ByteArray => x.data.toList) h
      simpa using this
    exact vb_inj a b ha hb [] (by rw [List.append_nil, h2])
  · rintro rfl; rfl
theorem vbs_begin (a b : Nat) (ha : a < 18446744073709551616) (hb : b < 18446744073709551616) (hle : (vb a).length ≤ (vb b).length) :
    ((⟨(vb b).toArray⟩ : ByteArray).extract 0 (vb a).length = ⟨(vb a).toArray⟩) ↔ a = b := by
  constructor
  · intro h
    have h2 := congrArg (fun x : ByteArray => x.data.toList) h
    simp only [ByteArray.data_extract, Array.toList_extract, List.extract_eq_take_drop] at h2
    simp at h2
    refine vb_inj a b ha hb ((vb b).drop (vb a).length) ?_
    conv => lhs; lhs; rw [← h2]
    exact List.take_append_drop _ _
  · rintro rfl
    apply ByteArray.ext
    apply Array.toList_inj.1
    simp [List.extract_eq_take_drop]
set_option maxRecDepth 20000 in
set_option maxHeartbeats 4000000 in
theorem varintOne_walk (a b : Nat) (ha : a < 18446744073709551616) (hb : b < 18446744073709551616) (w : World) :
    Calls Try.prog 6 #[.int .u64 a, .int .u64 b] w fun e w' => e = .returned (.bool true) ∧ Ext w w' := by
  have H1 := Lib.hid (fun w => vprint_any a ha w)
  have H2 := Lib.hid (fun w => vprint_any b hb w)
  have e1 := vbs_eq a b ha hb
  have e2 := vbs_begin a b ha hb
  have z1 := vbs_size a
  have z2 := vbs_size b
  have k1 := vb_len10 a ha
  have k2 := vb_len10 b hb
  rw [← z1, ← z2] at e2
  rw [← z1] at k1
  rw [← z2] at k2
  clear z1 z2
  generalize (⟨(vb a).toArray⟩ : ByteArray) = s at *
  generalize (⟨(vb b).toArray⟩ : ByteArray) = t at *
  have E1 := Lib.hid e1
  have E2 := Lib.hid e2
  clear e1 e2
  by_cases hab : a = b
  · subst hab
    obtain rfl : s = t := E1.out.2 rfl
    have E3 := Lib.hid ((E2.out (Nat.le_refl _)).2 rfl)
    go_enter Try.func6, Try.ntmps6
    go_wp2_with (first
      | (go_at_call 9; refine (vawake_any _).mono ?_; rintro e w1 ⟨rfl, x1⟩)
      | (go_at_call 8; refine (H1.out _).mono ?_; rintro e w2 ⟨rfl, x2⟩; clear H1)
      | (go_at_call 8; refine (H2.out _).mono ?_; rintro e w3 ⟨rfl, x3⟩; clear H2))
    go_ret
    exact ⟨rfl, (x2.trans x3).trans x1⟩
  · have hst := toList_ne (s := s) (t := t) (fun h => hab (E1.out.1 h))
    have hi : ((a : Int) == (b : Int)) = false := by rw [beq_eq_false_iff_ne]; omega
    by_cases hle : s.size ≤ t.size
    · have hex := toList_ne (s := t.extract 0 s.size) (t := s) (fun h => hab ((E2.out hle).1 h))
      have hli : (s.size : Int) ≤ t.size := by omega
      clear E1 E2
      go_enter Try.func6, Try.ntmps6
      go_wp2_with (first
        | (go_at_call 9; refine (vawake_any _).mono ?_; rintro e w1 ⟨rfl, x1⟩)
        | (go_at_call 8; refine (H1.out _).mono ?_; rintro e w2 ⟨rfl, x2⟩; clear H1)
        | (go_at_call 8; refine (H2.out _).mono ?_; rintro e w3 ⟨rfl, x3⟩; clear H2))
      go_ret
      exact ⟨rfl, (x2.trans x3).trans x1⟩
    · have hli : ¬ (s.size : Int) ≤ t.size := by omega
      clear E1 E2
      go_enter Try.func6, Try.ntmps6
      go_wp2_with (first
        | (go_at_call 9; refine (vawake_any _).mono ?_; rintro e w1 ⟨rfl, x1⟩)
        | (go_at_call 8; refine (H1.out _).mono ?_; rintro e w2 ⟨rfl, x2⟩; clear H1)
        | (go_at_call 8; refine (H2.out _).mono ?_; rintro e w3 ⟨rfl, x3⟩; clear H2))
      go_ret
      exact ⟨rfl, (x2.trans x3).trans x1⟩
set_option maxRecDepth 20000 in
set_option maxHeartbeats 4000000 in
theorem varintSize_walk (a b : Nat) (ha : a < 18446744073709551616) (hb : b < 18446744073709551616) (w : World) :
    Calls Try.prog 7 #[.int .u64 a, .int .u64 b] w fun e w' => e = .returned (.bool true) ∧ Ext w w' := by
  have H1 := Lib.hid (fun w => vprint_any a ha w)
  have H2 := Lib.hid (fun w => vsize_any a ha w)
  have H3 := Lib.hid (fun w => vsize_any b hb w)
  have z1 := Lib.hid (vbs_size a)
  have k1 := vb_len10 a ha
  have hm : a ≤ b → (vb a).length ≤ (vb b).length := vb_mono
  go_enter Try.func7, Try.ntmps7
  go_wp2_with fail
  go_loop [5, 6] (fun vn vg => ∃ n g : Nat, vn = .int .u64 n ∧ vg = .int .i64 g ∧ n < 18446744073709551616 ∧ Hid (g + (vb n).length = (vb a).length + 1) ∧ g ≤ 10) (fun vn _ => (intOf vn).toNat)
  case atStart => exact ⟨a, 1, rfl, rfl, ha, Lib.hid (by omega), by omega⟩
  case round =>
    obtain ⟨n, g, rfl, rfl, hn, HG, hg⟩ := hrel
    have hp := vb_pos n
    by_cases hlt : n < 128
    · have hv := HG.out
      rw [vb_small hlt] at hv
      have hgl : (vb a).length = g := by simpa using hv.symm
      rw [hgl] at H2 z1 hm k1
      clear hp HG hv hgl
      obtain ⟨s, hs⟩ : ∃ s : ByteArray, s = ⟨(vb a).toArray⟩ := ⟨_, rfl⟩
      rw [← hs] at z1 H1
      have hsz := z1.out
      clear hs z1
      generalize (vb b).length = gb at hm H3
      by_cases hab : a ≤ b
      · have hm2 := hm hab
        have hd : decide ((b : Int) < a) = false := by simp; omega
        have hd2 : decide ((g : Int) ≤ gb) = true := by simp; omega
        go_wp2_with (first
          | (go_at_call 9; refine (vawake_any _).mono ?_; rintro e w1 ⟨rfl, x1⟩)
          | (go_at_call 11; refine (H2.out _).mono ?_; rintro e w2 ⟨rfl, rfl⟩)
          | (go_at_call 11; refine (H3.out _).mono ?_; rintro e w2 ⟨rfl, rfl⟩)
          | (go_at_call 8; refine (H1.out _).mono ?_; rintro e w3 ⟨rfl, x3⟩))
        all_goals go_ret
        all_goals exact ⟨rfl, x1.trans x3⟩
      · have hd : decide ((b : Int) < a) = true := by simp; omega
        go_wp2_with (first
          | (go_at_call 9; refine (vawake_any _).mono ?_; rintro e w1 ⟨rfl, x1⟩)
          | (go_at_call 11; refine (H2.out _).mono ?_; rintro e w2 ⟨rfl, rfl⟩)
          | (go_at_call 11; refine (H3.out _).mono ?_; rintro e w2 ⟨rfl, rfl⟩)
          | (go_at_call 8; refine (H1.out _).mono ?_; rintro e w3 ⟨rfl, x3⟩))
        all_goals go_ret
        all_goals exact ⟨rfl, x1.trans x3⟩
    · have hv := HG.out
      rw [vb_big hlt, List.length_cons] at hv
      have hp2 := vb_pos (n / 128)
      have hg2 : g + 1 ≤ 10 := by omega
      have HG2 := Lib.hid (show g + 1 + (vb (n / 128)).length = (vb a).length + 1 by omega)
      have HD := Lib.hid (show (n : Int) / 128 = ((n / 128 : Nat) : Int) by omega)
      clear hv hp hp2 HG hm k1
      go_wp2_with fail
      go_round
      case rel => exact ⟨n / 128, g + 1, by rw [← HD.out], by go_num, by omega, HG2, hg2⟩
      case measure => simp [intOf]; omega
end Go.Proofs.Ytjoalilibalklaa
