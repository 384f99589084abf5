/- Layer 6's reference: lists of bits. -/
import Derived.Test.YthbnokaclolknaaBitD
namespace Go.Proofs.Ythbnokaclolknaa
open Go.RowKit
set_option linter.unusedVariables false
set_option linter.unusedSimpArgs false
def boolsV (L : List Bool) : List Value := L.map Value.bool
theorem boolsV_len (L : List Bool) : (boolsV L).length = L.length := by simp [boolsV]
theorem boolsV_get (L : List Bool) (i : Nat) (h : i < L.length) : (boolsV L)[i]? = some (.bool (gd L i)) := by simp [boolsV, gd, h]
theorem boolsV_set (L : List Bool) (i : Nat) (c : Bool) : (boolsV L).set i (.bool c) = boolsV (L.set i c) := by simp [boolsV, List.map_set]
theorem boolsV_append (L M : List Bool) : boolsV (L ++ M) = boolsV L ++ boolsV M := by simp [boolsV]
theorem boolsV_one (L : List Bool) : ∀ u ∈ boolsV L, u.oneCell' = true := by
  intro u hu; simp only [boolsV, List.mem_map] at hu; obtain ⟨c, _, rfl⟩ := hu; rfl
theorem falses (n : Nat) : madeCells #[Value.bool false] n = (boolsV (List.replicate n false)).toArray := by
  apply Array.toList_inj.1
  rw [toList_madeCells_one]
  simp [boolsV]
theorem bool_info : (Try.prog.info? 4).map (fun i => (i.zero, i.size, i.bytes)) = some (some (.bool false), 1, 1) := by kernel_rfl
/-- a slice of bits -/
abbrev blT (v : Value) (L : List Bool) : Thing := ownT 4 1 v L.length (boolsV L)
/-- bits in memory -/
def BRow (w : World) (A : Option Addr) (L : List Bool) : Prop := ∀ i, i < L.length → ∃ b off, A = some ⟨b, off, none⟩ ∧ w.cell? ⟨b, off + i, none⟩ = some (.bool (gd L i))
theorem BRow.ext {w w' : World} {A : Option Addr} {L : List Bool} (h : BRow w A L) (x : Ext w w') : BRow w' A L := fun i hi => by
  obtain ⟨b, off, e, hc⟩ := h i hi
  exact ⟨b, off, e, x.cell hc⟩
theorem Own.brow {w : World} {A : Option Addr} {cap : Nat} {L : List Bool} (h : Own w 4 1 (.slice A L.length cap) L.length (boolsV L)) : BRow w A L := by
  intro i hi
  obtain ⟨g, c, e, _⟩ := h.slice (by omega)
  cases e
  exact ⟨g, 0, rfl, by rw [Nat.zero_add, Own.cell h i (by omega), boolsV_get L i hi]⟩
/-- the k lowest of c bits, the others not yet -/
def lowB (n c k : Nat) : List Bool := (List.range c).map fun j => decide (c - k ≤ j) && n.testBit (c - 1 - j)
theorem lowB_len (n c k : Nat) : (lowB n c k).length = c := by simp [lowB]
theorem lowB_zero (n c : Nat) : lowB n c 0 = List.replicate c false := by
  apply List.ext_getElem?
  intro i
  rcases Nat.lt_or_ge i c with h | h
  · simp [lowB, h, Nat.not_le.2 h]
  · simp [lowB, h]
theorem lowB_all (n c : Nat) : lowB n c c = bitsOf n c := by simp [lowB, bitsOf]
theorem lowB_succ (n c k : Nat) (h : k < c) : lowB n c (k + 1) = (lowB n c k).set (c - 1 - k) (n.testBit k) := by
  apply List.ext_getElem?
  intro i
  rw [List.getElem?_set]
  rcases Nat.lt_or_ge i c with hi | hi
  · simp only [lowB, List.getElem?_map, List.length_map, List.length_range, hi, List.getElem?_range, Option.map_some]
    by_cases e : c - 1 - k = i
    · rw [if_pos e, if_pos (by omega), decide_eq_true (by omega), show c - 1 - i = k by omega]; simp
    · rw [if_neg e]
      congr 2
      by_cases h2 : c - k ≤ i
      · rw [decide_eq_true h2, decide_eq_true (by omega)]
      · rw [decide_eq_false h2, decide_eq_false (by omega)]
  · simp [lowB, hi, show ¬ c - 1 - k = i by omega]
theorem bit_div (n k : Nat) : ((n / 2 ^ k : Nat) : Int) % 2 == 1 ↔ n.testBit k = true := by
  rw [Nat.testBit_eq_decide_div_mod_eq]
  generalize n / 2 ^ k = y
  rw [beq_iff_eq, decide_eq_true_iff]; omega
section
variable {S : Nat → Prop} {W w : World} {M : List Thing}
set_option maxHeartbeats 1000000 in
theorem rbits_st (h : St S W w M) (n c : Nat) (hn : n < 18446744073709551616) (hc : c ≤ 64) :
    Calls Try.prog 10 #[.int .u64 n, .int .i64 c] w fun e w' => ∃ g, e = .returned (.slice (some ⟨g, 0, none⟩) c c) ∧ St S W w' (blT (.slice (some ⟨g, 0, none⟩) c c) (bitsOf n c) :: M) := by
  obtain ⟨i0, hi, hz0, hz1, hz2⟩ := info_parts bool_info
  have hmk : ∀ w : World, (Instr.makeSlice 27 (.int .i64 (c : Int)) (.int .i64 (c : Int))).run Try.prog w = .ok (.slice (some ⟨w.heap.size, 0, none⟩) c c) (w.alloc (.cells (boolsV (List.replicate c false)).toArray 4)) := by
    intro w
    rw [run_make w 27 4 i0 _ Try.underlying27 hi hz0 .i64 .i64 c c (by omega) (by omega) (by rw [hz2]; omega) (by omega), hz1]
    simp only [Value.cells, Nat.mul_one, Int.toNat_natCast, falses]
  go_enter Try.func10, Try.ntmps10
  go_wp2_with fail
  have h2 := h.made 4 1 c c (boolsV (List.replicate c false)).toArray (Nat.le_refl _) (by unfold maxLen; omega) (by simp [boolsV])
  have h3 : St S W (w.alloc (.cells (boolsV (List.replicate c false)).toArray 4)) (ownT 4 1 (.slice (some ⟨w.heap.size, 0, none⟩) c c) c (boolsV (lowB n c 0)) :: M) := by
    rw [lowB_zero]; simpa [boolsV] using h2
  clear hmk h2 hi hz0 hz1 hz2
  generalize w.heap.size = x at h3 ⊢
  go_loopw [0, 6] (fun vn vi wr => ∃ k : Nat, k ≤ c ∧ vn = .int .u64 (n / 2 ^ k : Nat) ∧ vi = .int .i64 ((c : Int) - 1 - k) ∧ St S W wr (ownT 4 1 (.slice (some ⟨x, 0, none⟩) c c) c (boolsV (lowB n c k)) :: M)) (fun _ vi _ => (intOf vi + 1).toNat)
  case atStart => exact ⟨0, by omega, by simp, by simp, h3⟩
  case round =>
    clear h h3
    obtain ⟨k, hk, rfl, rfl, h⟩ := hrel
    by_cases hlt : k < c
    · have hge : (0 : Int) ≤ (c : Int) - 1 - k := by omega
      obtain ⟨j, hj⟩ : ∃ j, j = c - 1 - k := ⟨_, rfl⟩
      have hjc : (c : Int) - 1 - k = (j : Int) := by omega
      have hjl : j < c := by omega
      have kc := h.own.cell j (by omega)
      rw [boolsV_get _ _ (by rw [lowB_len]; exact hjl)] at kc
      have kf := h.own.free j
      have HX := Lib.hid (show (n / 2 ^ k) / 2 = n / 2 ^ (k + 1) by rw [Nat.div_div_eq_div_mul, Nat.pow_succ])
      have HB := Lib.hid (bit_div n k)
      have HS := Lib.hid (show (boolsV (lowB n c k)).set j (.bool (n.testBit k)) = boolsV (lowB n c (k + 1)) by rw [boolsV_set, lowB_succ n c k hlt, hj])
      have hxl : n / 2 ^ k < 18446744073709551616 := Nat.lt_of_le_of_lt (Nat.div_le_self _ _) hn
      generalize hb : n.testBit k = bit at HB HS
      clear hb
      generalize n / 2 ^ k = y at hxl HX HB ⊢
      generalize gd (lowB n c k) j = old at kc
      have hbb : ((y : Int) % 2 == 1) = bit := by
        have := HB.out
        cases bit
        · simpa using this
        · exact this.2 rfl
      have h5 := h.stored j (.bool bit)
      rw [HS.out] at h5
      clear hj
      go_wp2_with fail
      go_roundw
      case rel => first | (refine ⟨k + 1, by omega, ?_, by go_num, h5⟩; exact iv (by rw [← HX.out]; push_cast; omega)) | ((repeat apply Exists.intro); refine ⟨⟨k + 1, by omega, ?_, by go_num, h5⟩, rfl⟩; exact iv (by rw [← HX.out]; push_cast; omega))
      case measure => simp [intOf]; omega
    · obtain rfl : k = c := by omega
      have hge : ((k : Int) - 1 - k) = -1 := by omega
      rw [lowB_all] at h
      go_wp2_with fail
      go_ret
      exact ⟨_, rfl, by unfold blT; rw [bitsOf_len]; exact h⟩
theorem gd_take_succ (L : List Bool) (k : Nat) : nm (gd L) 0 (k + 1) = nm (gd L) 0 k * 2 + (gd L k).toNat := by simp [nm]
set_option maxHeartbeats 1000000 in
theorem rnumber_any (A : Option Addr) (cap : Nat) (L : List Bool) (hL : L.length ≤ 64) (hr : BRow w A L) :
    Calls Try.prog 17 #[.slice A L.length cap] w fun e w' => e = .returned (.int .u64 (numL L : Nat)) ∧ Ext w w' := by
  unfold numL
  obtain ⟨m, hm⟩ : ∃ m, m = L.length := ⟨_, rfl⟩
  unfold BRow at hr
  rw [← hm] at hr hL ⊢
  go_enter Try.func17, Try.ntmps17
  go_wp2_with fail
  go_loopw [3, 4] (fun vn vi wr => ∃ k : Nat, k ≤ m ∧ vn = .int .u64 (nm (gd L) 0 k : Nat) ∧ vi = .int .i64 k ∧ Ext w wr) (fun _ vi _ => m - (intOf vi).toNat)
  case atStart => exact ⟨0, by omega, rfl, rfl, Mut.refl _ _⟩
  case round =>
    obtain ⟨k, hk, rfl, rfl, hx⟩ := hrel
    by_cases hlt : k < m
    · obtain ⟨b, off, rfl, hc⟩ := hr k hlt
      have hc2 := hx.cell hc
      have HE := Lib.hid (gd_take_succ L k)
      have hnl := nm_lt (gd L) 0 k
      have hp : 2 ^ k ≤ 2 ^ 63 := Nat.pow_le_pow_right (by omega) (by omega)
      obtain ⟨x, hx2⟩ : ∃ x, x = nm (gd L) 0 k := ⟨_, rfl⟩
      rw [← hx2] at hnl HE ⊢
      have hxb : x < 9223372036854775808 := by omega
      clear hc hp hnl hx2
      generalize gd L k = bit at hc2 HE
      cases bit
      · go_wp2_with fail
        go_roundw
        case rel => first | (refine ⟨k + 1, by omega, ?_, by go_num, hx⟩; exact iv (by rw [HE.out]; push_cast; simp)) | ((repeat apply Exists.intro); refine ⟨⟨k + 1, by omega, ?_, by go_num, hx⟩, rfl⟩; exact iv (by rw [HE.out]; push_cast; simp))
        case measure => simp [intOf]; omega
      · go_wp2_with fail
        go_roundw
        case rel => first | (refine ⟨k + 1, by omega, ?_, by go_num, hx⟩; exact iv (by rw [HE.out]; push_cast; simp)) | ((repeat apply Exists.intro); refine ⟨⟨k + 1, by omega, ?_, by go_num, hx⟩, rfl⟩; exact iv (by rw [HE.out]; push_cast; simp))
        case measure => simp [intOf]; omega
    · obtain rfl : k = m := by omega
      go_wp2_with fail
      go_ret
      exact ⟨rfl, hx⟩
end
end Go.Proofs.Ythbnokaclolknaa
