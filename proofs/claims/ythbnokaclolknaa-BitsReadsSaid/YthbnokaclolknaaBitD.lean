/- Layer 6's reader: Done. -/
import Derived.Test.YthbnokaclolknaaBitT
import Derived.Deep.LoopGhost
namespace Go.Proofs.Ythbnokaclolknaa
open Go.RowKit
set_option linter.unusedVariables false
set_option linter.unusedSimpArgs false
section
variable {S : Nat → Prop} {W w : World} {M : List Thing} {b : Nat} {L : List Bool} {s : ByteArray} {a : Nat}
theorem bdone_nil (w : World) : Calls Try.prog 19 #[.pointer none] w fun e w' => e = .returned (.int .i64 15) ∧ w = w' := by
  go_enter Try.func19, Try.ntmps19
  go_wp2
  go_ret
  exact ⟨rfl, rfl⟩
theorem br_one (s : ByteArray) (a : Nat) : (#[Value.string s, Value.int .i64 (a : Nat)]).all (·.oneCell') = true := by simp [Value.oneCell']
set_option maxHeartbeats 1000000 in
theorem bdone_st (h : St S W w (brT b s a :: M)) (ha : a ≤ 8 * s.size) (hs : s.size ≤ 140737488355328) :
    Calls Try.prog 19 #[.pointer (some ⟨b, 0, none⟩)] w fun e w' => ∃ r, e = .returned (.int .i64 r) ∧ (r = 0 ∧ rest0 s.data.toList a ∨ r = 3 ∧ ¬ rest0 s.data.toList a) ∧ St S W w' (brT b s a :: M) := by
  have hb := St.blk h
  go_enter Try.func19, Try.ntmps19
  obtain ⟨d, hd⟩ : ∃ d, d = 8 * s.size - a := ⟨_, rfl⟩
  have HL := Lib.hid (bleft_st (h.alloc #[.string s, .int .i64 a] 52) ha hs)
  rw [← hd] at HL
  have HD := Lib.hid hd
  have hdb : d ≤ 1125899906842624 := by omega
  clear hd
  by_cases h8 : 8 ≤ d
  · go_wp2_with (first | (refine wpList_load_row rfl _ _ rfl b rfl 52 #[.string s, .int .i64 a] (0, 0) _ hb Try.underlying52 rfl (by kernel_rfl) ?_) | (go_at_call 20; refine HL.out.mono ?_; rintro e w1 ⟨rfl, hx⟩))
    go_ret
    refine ⟨_, rfl, .inr ⟨rfl, fun hr => ?_⟩, ((h.alloc _ _).ext hx).drop⟩
    have := hr.1; rw [data_len, ← HD.out] at this; omega
  · go_wp2_with (first | (refine wpList_load_row rfl _ _ rfl b rfl 52 #[.string s, .int .i64 a] (0, 0) _ hb Try.underlying52 rfl (by kernel_rfl) ?_) | (go_at_call 20; refine HL.out.mono ?_; rintro e w1 ⟨rfl, hx⟩))
    have h2 : St S W w1 (brT w.heap.size s a :: brT b s a :: M) := (h.alloc _ _).ext hx
    clear hx HL
    generalize w.heap.size = x at h2 ⊢
    go_loopg [] d (fun g wr => g ≤ d ∧ (∀ i, i < d - g → sb s.data.toList (a + i) = false) ∧ St S W wr (brT x s (8 * s.size - g) :: brT b s a :: M))
    case atStart => exact ⟨Nat.le_refl _, fun i hi => by omega, by rw [HD.out]; rw [show 8 * s.size - (8 * s.size - a) = a by omega]; exact h2⟩
    case round =>
      obtain ⟨hg, hz, h3⟩ := hrel
      have HL := Lib.hid (bleft_st h3 (by omega) hs)
      rw [show 8 * s.size - (8 * s.size - gk) = gk by have := HD.out; omega] at HL
      by_cases hpos : 0 < gk
      · have hlt : 8 * s.size - gk < 8 * s.size := by have := HD.out; omega
        by_cases hbit : sb s.data.toList (8 * s.size - gk) = true
        · go_wp2_with (first | (go_at_call 20; refine HL.out.mono ?_; rintro e w2 ⟨rfl, hx⟩; have HN := Lib.hid (bnext_st (h3.ext hx) hlt hs); rw [hbit] at HN) | (go_at_call 21; refine HN.out.mono ?_; rintro e w3 ⟨rfl, h4⟩))
          go_ret
          refine ⟨_, rfl, .inr ⟨rfl, fun hr => ?_⟩, h4.drop⟩
          have h5 := hr.2 (d - gk) (by rw [data_len, ← HD.out]; omega)
          rw [show a + (d - gk) = 8 * s.size - gk by have := HD.out; omega, hbit] at h5
          cases h5
        · have hbit : sb s.data.toList (8 * s.size - gk) = false := by simpa using hbit
          go_wp2_with (first | (go_at_call 20; refine HL.out.mono ?_; rintro e w2 ⟨rfl, hx⟩; have HN := Lib.hid (bnext_st (h3.ext hx) hlt hs); rw [hbit] at HN) | (go_at_call 21; refine HN.out.mono ?_; rintro e w3 ⟨rfl, h4⟩))
          go_roundg (gk - 1)
          case measure => omega
          case rel =>
            refine ⟨by omega, fun i hi => ?_, by rw [show 8 * s.size - (gk - 1) = 8 * s.size - gk + 1 by have := HD.out; omega]; exact h4⟩
            by_cases hi2 : i < d - gk
            · exact hz i hi2
            · rw [show a + i = 8 * s.size - gk by have := HD.out; omega]; exact hbit
      · obtain rfl : gk = 0 := by omega
        go_wp2_with (first | (go_at_call 20; refine HL.out.mono ?_; rintro e w2 ⟨rfl, hx⟩))
        go_ret
        exact ⟨_, rfl, .inl ⟨rfl, by rw [data_len, ← HD.out]; omega, fun i hi => hz i (by rw [data_len, ← HD.out] at hi; exact hi)⟩, (h3.ext hx).drop⟩
end
end Go.Proofs.Ythbnokaclolknaa
