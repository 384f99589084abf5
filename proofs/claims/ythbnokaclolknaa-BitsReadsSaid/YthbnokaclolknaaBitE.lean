/- BitsReads: the walk. -/
import Derived.Test.YthbnokaclolknaaBitP
namespace Go.Proofs.Ythbnokaclolknaa
open Go.RowKit
set_option linter.unusedVariables false
set_option linter.unusedSimpArgs false
/-- a part of a slice of bits -/
theorem BRow.sub {w : World} {A : Option Addr} {L : List Bool} (h : BRow w A L) (lo hi : Nat) (c : Nat) (hl : lo ≤ hi) (hh : hi ≤ L.length) (hc : hi ≤ c) :
    BRow w (if c = lo then A else A.map (·.add (lo * 1))) ((L.drop lo).take (hi - lo)) := by
  intro i hi'
  simp only [List.length_take, List.length_drop] at hi'
  obtain ⟨b, off, e, hcell⟩ := h (lo + i) (by omega)
  refine ⟨b, off + lo, ?_, ?_⟩
  · rw [if_neg (by omega), e]; simp [Addr.add]
  · rw [Nat.add_assoc, hcell]
    have : gd ((L.drop lo).take (hi - lo)) i = gd L (lo + i) := by
      unfold gd
      rw [List.getD_eq_getElem?_getD, List.getD_eq_getElem?_getD, List.getElem?_take, if_pos (by omega), List.getElem?_drop]
    rw [this]
theorem run_sub (A : Option Addr) (len c lo hi : Nat) (hl : lo ≤ hi) (hh : hi ≤ len) (hc : len ≤ c) (w : World) :
    (Instr.slice 27 (.slice A len c) (some (.int .i64 lo)) (some (.int .i64 hi)) none).run Try.prog w = .ok (.slice (if c = lo then A else A.map (·.add (lo * 1))) (hi - lo) (c - lo)) w := by
  obtain ⟨i0, hi0, hz0, hz1, hz2⟩ := info_parts bool_info
  rw [run_slice_lh (ht := Try.underlying27) (h0 := by omega) (h1 := by omega) (h2 := by omega)]
  rw [show Try.prog.elem 27 = 4 from by kernel_rfl, run_sizeOf (h := hi0), show Try.prog.cellsOf 4 = 1 from by kernel_rfl]
  simp [Result.andThen, sliced]
theorem run_from (A : Option Addr) (len c lo : Nat) (hl : lo ≤ len) (hc : len ≤ c) (w : World) :
    (Instr.slice 27 (.slice A len c) (some (.int .i64 lo)) none none).run Try.prog w = .ok (.slice (if c = lo then A else A.map (·.add (lo * 1))) (len - lo) (c - lo)) w := by
  obtain ⟨i0, hi0, hz0, hz1, hz2⟩ := info_parts bool_info
  rw [run_slice_l (ht := Try.underlying27) (h0 := by omega) (h1 := by omega)]
  rw [show Try.prog.elem 27 = 4 from by kernel_rfl, run_sizeOf (h := hi0), show Try.prog.cellsOf 4 = 1 from by kernel_rfl]
  simp [Result.andThen, sliced]
/-- fewer than eight bits are left, and none of the first j is set -/
def noneTo (L : List Bool) (a : Nat) : Nat → Bool
  | 0 => decide (L.length - a < 8)
  | j + 1 => noneTo L a j && !gd L (a + j)
theorem noneTo_iff (L : List Bool) (a : Nat) : ∀ j, noneTo L a j = true ↔ (L.length - a < 8 ∧ ∀ i, i < j → gd L (a + i) = false)
  | 0 => by simp [noneTo]
  | j + 1 => by
    rw [noneTo, Bool.and_eq_true, noneTo_iff L a j]
    constructor
    · rintro ⟨⟨h1, h2⟩, h3⟩
      refine ⟨h1, fun i hi => ?_⟩
      by_cases e : i = j
      · subst e; simpa using h3
      · exact h2 i (by omega)
    · rintro ⟨h1, h2⟩
      exact ⟨⟨h1, fun i hi => h2 i (by omega)⟩, by simpa using h2 j (by omega)⟩
theorem noneTo_rest (l : List UInt8) (a : Nat) (ha : a ≤ 8 * l.length) : noneTo (allB l) a (8 * l.length - a) = true ↔ rest0 l a := by
  rw [noneTo_iff, allB_len]
  unfold rest0
  constructor
  · rintro ⟨h1, h2⟩
    exact ⟨h1, fun i hi => by rw [← allB_gd l _ (by omega)]; exact h2 i hi⟩
  · rintro ⟨h1, h2⟩
    exact ⟨h1, fun i hi => by rw [allB_gd l _ (by omega)]; exact h2 i hi⟩
theorem part_num (l : List UInt8) (a c : Nat) (h : a + c ≤ 8 * l.length) : numL (((allB l).drop a).take c) = nm (sb l) a c := by
  have hlen : (((allB l).drop a).take c).length = c := by rw [List.length_take, List.length_drop, allB_len]; omega
  unfold numL
  rw [hlen]
  apply nm_shift
  intro i hi
  rw [← allB_gd l (a + i) (by omega)]
  unfold gd
  rw [List.getD_eq_getElem?_getD, List.getD_eq_getElem?_getD, List.getElem?_take, if_pos (by omega), List.getElem?_drop, Nat.zero_add]
/-- the rest of the bits, as a slice -/
theorem rest_facts {S : Nat → Prop} {W w : World} {T : Thing} {A : Option Addr} {N c a : Nat} {L : List Bool} (h : St S W w [T, blT (.slice A N c) L]) (hN : L.length = N) (ha : a ≤ N) :
    ∃ (A5 : Option Addr) (D c5 : Nat), Hid (D = N - a) ∧ (∀ w, (Instr.slice 27 (.slice A N c) (some (.int .i64 a)) none none).run Try.prog w = .ok (.slice A5 D c5) w) ∧
      ∀ j, j < D → ∃ b o, A5 = some ⟨b, o, none⟩ ∧ w.cell? ⟨b, o + j, none⟩ = some (.bool (gd L (a + j))) := by
  have hown := h.swap.own
  have hc : N ≤ c := by
    rcases hown.2 with ⟨e, hn⟩ | ⟨g, cap, cur, e, _, hh, hnc, _⟩
    · omega
    · cases e; omega
  have hb := Own.brow (w := w) (A := A) (cap := c) (L := L) (by rw [hN]; rw [hN] at hown; exact hown)
  refine ⟨_, _, _, Lib.hid rfl, fun w => run_from A N c a ha hc w, fun j hj => ?_⟩
  obtain ⟨b, o, e, hcell⟩ := hb (a + j) (by omega)
  refine ⟨b, o + a, ?_, by rw [Nat.add_assoc]; exact hcell⟩
  rw [if_neg (by omega), e]; simp [Addr.add]
/-- a part of the bits, as a slice -/
theorem part_facts {S : Nat → Prop} {W w : World} {T : Thing} {A : Option Addr} {N c a k : Nat} {L : List Bool} (h : St S W w [T, blT (.slice A N c) L]) (hN : L.length = N) (ha : a + k ≤ N) (hk : k ≤ 64) (B : Nat) (hB : B = a + k) :
    ∃ (A5 : Option Addr) (c5 : Nat), (∀ w, (Instr.slice 27 (.slice A N c) (some (.int .i64 a)) (some (.int .i64 (B : Nat))) none).run Try.prog w = .ok (.slice A5 k c5) w) ∧
      ∀ w', Ext w w' → Calls Try.prog 17 #[.slice A5 k c5] w' fun e w'' => e = .returned (.int .u64 (numL ((L.drop a).take k) : Nat)) ∧ Ext w' w'' := by
  have hown := h.swap.own
  have hc : N ≤ c := by
    rcases hown.2 with ⟨e, hn⟩ | ⟨g, cap, cur, e, _, hh, hnc, _⟩
    · omega
    · cases e; omega
  have hb := Own.brow (w := w) (A := A) (cap := c) (L := L) (by rw [hN]; rw [hN] at hown; exact hown)
  refine ⟨_, c - a, fun w => by rw [hB, run_sub A N c a (a + k) (by omega) ha hc w, Nat.add_sub_cancel_left], fun w' x => ?_⟩
  have hl : ((L.drop a).take k).length = k := by rw [List.length_take, List.length_drop]; omega
  have h2 := hb.sub a (a + k) c (by omega) (by omega) (by omega)
  rw [Nat.add_sub_cancel_left] at h2
  have := rnumber_any (w := w') _ (c - a) ((L.drop a).take k) (by omega) (h2.ext x)
  rw [hl] at this
  exact this
end Go.Proofs.Ythbnokaclolknaa
