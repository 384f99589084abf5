/- OctetFours: the walk. -/
import Derived.Test.YtdgoaojojebpmaaAwake
import Derived.Test.YtdgoaojojebpmaaOct
import Derived.Test.YtdgoaojojebpmaaOctW
namespace Go.Proofs.Ytdgoaojojebpmaa
open Go.RowKit
set_option linter.unusedVariables false
set_option linter.unusedSimpArgs false

theorem four_le4 (n : Nat) (h : n < 4294967296) : four (UInt8.ofNat n) (UInt8.ofNat (n / 256)) (UInt8.ofNat (n / 65536)) (UInt8.ofNat (n / 16777216)) = n := by
  simp only [four, UInt8.toNat_ofNat']
  omega
theorem le4_four (a b c d : UInt8) : le4 (four a b c d) = [a, b, c, d] := by
  have ha := a.toNat_lt
  have hb := b.toNat_lt
  have hc := c.toNat_lt
  have hd := d.toNat_lt
  have e : ∀ (x : UInt8) (m : Nat), m % 256 = x.toNat → UInt8.ofNat m = x := by
    intro x m h
    apply UInt8.toNat_inj.1
    simp [h]
  unfold le4 four
  rw [e a _ (by omega), e b _ (by omega), e c _ (by omega), e d _ (by omega)]
theorem four_lt (a b c d : UInt8) : four a b c d < 4294967296 := by
  have ha := a.toNat_lt
  have hb := b.toNat_lt
  have hc := c.toNat_lt
  have hd := d.toNat_lt
  unfold four; omega
def sLe4 (n : Nat) : ByteArray := ⟨(le4 n).toArray⟩
theorem sLe4_size (n : Nat) : (sLe4 n).size = 4 := rfl
theorem sLe4_four (n : Nat) (h : n < 4294967296) : four ((sLe4 n)[0]'(by rw [sLe4_size]; omega)) ((sLe4 n)[1]'(by rw [sLe4_size]; omega)) ((sLe4 n)[2]'(by rw [sLe4_size]; omega)) ((sLe4 n)[3]'(by rw [sLe4_size]; omega)) = n := four_le4 n h

theorem take4 (s : ByteArray) (h : 4 ≤ s.size) : s.data.toList.take 4 = [s[0], s[1], s[2], s[3]] := by
  have e : ∀ i (hi : i < s.size), s.data.toList[i]? = some s[i] := fun i hi => by
    rw [List.getElem?_eq_getElem (by simpa using hi)]; rfl
  apply List.ext_getElem?
  intro i
  rw [List.getElem?_take]
  match i with
  | 0 => simp only [e 0 (by omega)]; rfl
  | 1 => simp only [e 1 (by omega)]; rfl
  | 2 => simp only [e 2 (by omega)]; rfl
  | 3 => simp only [e 3 (by omega)]; rfl
  | n + 4 => rw [if_neg (by omega)]; rfl
set_option maxRecDepth 20000 in
set_option maxHeartbeats 2000000 in
theorem octetFours_walk (n : Nat) (s : ByteArray) (hn : n < 4294967296) (hs0 : s.size ≤ 140737488351232) (w : World) :
    Calls Try.prog 6 #[.int .u32 n, .string s] w fun e w' => e = .returned (.bool true) ∧ Ext w w' := by
  have hs : s.size ≤ maxLen := by unfold maxLen; omega
  go_enter Try.func6, Try.ntmps6
  go_wp2_with fail
  have h := ((St.start noB w).newWr).newWr.swap
  rw [World.size_alloc] at h
  refine (wfour_st h n hn (by simp)).mono ?_
  rintro e w2 ⟨rfl, h2⟩
  have h2 : St noB w w2 [wrT w.heap.size (le4 n), wrT (w.heap.size + 1) []] := h2
  go_wp2_with fail
  refine (str_st h2).mono ?_
  rintro e w3 ⟨rfl, rfl⟩
  go_wp2_with fail
  refine (new_st h2 (sLe4 n)).mono ?_
  rintro e w3 ⟨rfl, h3⟩
  go_wp2_with fail
  have c := four_st h3 (by unfold maxLen; rw [sLe4_size]; decide) (by rw [sLe4_size]; omega)
  simp only [Nat.zero_add, sLe4_four n hn] at c
  refine c.mono ?_
  rintro e w4 ⟨rfl, h4⟩
  have h5 := h4.pull 1
  go_wp2_with fail
  refine (awake_any _).mono ?_
  rintro e w5 ⟨rfl, x5⟩
  have h5 : St noB w w5 [wrT w.heap.size (le4 n), rdT w2.heap.size (sLe4 n) 4, wrT (w.heap.size + 1) []] := h5.ext x5
  have hfz := sLe4_size n
  unfold sLe4 at hfz
  have c21 := rfour_any (sLe4 n) (sLe4_size n)
  rw [sLe4_four n hn] at c21
  have C21 := Lib.hid c21
  have h6 := h5.pull 2
  have h7 : St noB w w5 [wrT (w.heap.size + 1) [], wrT w.heap.size (le4 n), rdT w2.heap.size (sLe4 n) 4] := h6
  clear c c21
  by_cases h4s : 4 ≤ s.size
  · go_wp2_with (first
      | (go_at_call 20; refine (str_st h5).mono ?_; rintro e w6 ⟨rfl, rfl⟩)
      | (go_at_call 21; refine (C21.out _).mono ?_; rintro e w6 ⟨rfl, rfl⟩)
      | (go_at_call 9; refine (new_st h7 s).mono ?_; rintro e w8 ⟨rfl, h8⟩)
      | (go_at_call 13; refine (four_st h8 hs (by omega)).mono ?_; rintro e w9 ⟨rfl, h9⟩; have h10 := h9.pull 1; have h11 : St noB w w9 [wrT (w.heap.size + 1) [], rdT w5.heap.size s (0 + 4), wrT w.heap.size (le4 n), rdT w2.heap.size (sLe4 n) 4] := h10)
      | (go_at_call 19; refine (wfour_st h11 _ (four_lt _ _ _ _) (by simp)).mono ?_; rintro e w12 ⟨rfl, h12⟩))
    rw [le4_four] at h12
    have ht : (s.extract 0 4).toList = [s[0], s[1], s[2], s[3]] := by rw [ext_toList]; exact take4 s h4s
    (refine wp_region_after (by kernel_rfl) (by kernel_rfl) ?_; (repeat (first | go_big_quiet_skip | (go_big_quiet_want; first | (fail; simp only [Act.put, List.setIfInBounds_toArray, List.set_cons_succ, List.set_cons_zero]; go_big_quiet_on) | (go_big_quiet_op; first | go_big_quiet_on | (apply Exists.intro; refine ⟨fun _ => ?_, ?_⟩; (· (go_at_call 20; exact Calls.after_same (str_st (St.ext h12 (After.ext _))))); go_big_quiet_on))))); refine wpQuiet_nil ?_; rintro _ ⟨y, rfl⟩)
    go_wp2
    go_ret
    exact ⟨rfl, (h12.ext y.ext).ends⟩
  · go_wp2_with (first
      | (go_at_call 20; refine (str_st h5).mono ?_; rintro e w6 ⟨rfl, rfl⟩)
      | (go_at_call 21; refine (C21.out _).mono ?_; rintro e w6 ⟨rfl, rfl⟩)
      | (go_at_call 9; refine (new_st h7 s).mono ?_; rintro e w8 ⟨rfl, h8⟩)
      | (go_at_call 13; refine (four_end_st h8 hs (by omega) (by omega)).mono ?_; rintro e w9 ⟨rfl, h9⟩))
    go_ret
    exact ⟨rfl, h9.ends⟩
end Go.Proofs.Ytdgoaojojebpmaa
