/- awake of layer 6's laws; a law at nil. -/
import Derived.Test.YthbnokaclolknaaBitG
import Derived.Test.YthbnokaclolknaaArg
namespace Go.Proofs.Ythbnokaclolknaa
open Go.RowKit
set_option linter.unusedVariables false
set_option linter.unusedSimpArgs false

def sB0 : ByteArray := ⟨#[176]⟩
def bB0 : List Bool := [true, false, true, true]
theorem pB0 : (⟨(pack bB0).toArray⟩ : ByteArray) = sB0 := by kernel_rfl
theorem lB0 : ([] ++ bitsOf 5 3) ++ bitsOf 1 1 = bB0 := by decide
theorem n1 : nm (sb sB0.data.toList) 0 3 = 5 := by decide
theorem n2 : nm (sb sB0.data.toList) 3 1 = 1 := by decide
theorem sB0_size : sB0.size = 1 := rfl
theorem r3 : ¬ rest0 sB0.data.toList 3 := by
  intro h
  have := h.2 0 (by decide)
  revert this; decide
theorem r4 : rest0 sB0.data.toList 4 := by
  refine ⟨by decide, fun i hi => ?_⟩
  have : i < 4 := hi
  have : i = 0 ∨ i = 1 ∨ i = 2 ∨ i = 3 := by omega
  rcases this with rfl | rfl | rfl | rfl <;> decide
set_option maxRecDepth 20000 in
set_option maxHeartbeats 2000000 in
theorem bawake_any (w : World) :
    Calls Try.prog 8 #[] w fun e w' => e = .returned (.bool true) ∧ Ext w w' := by
  go_enter Try.func8, Try.ntmps8
  go_wp2_with fail
  have h := (St.start noB w).newBw
  generalize w.alloc (.cells #[.slice none 0 0, .int .i64 0] 26) = w1 at h ⊢
  refine (bput_st h 5 3 (by omega) (by omega) (by decide)).mono ?_
  rintro e w2 ⟨rfl, h2⟩
  go_wp2_with fail
  refine (bput_st h2 1 1 (by omega) (by omega) (by decide)).mono ?_
  rintro e w3 ⟨rfl, h3⟩
  rw [lB0] at h3
  clear h h2
  go_wp2_with fail
  refine (put_arg _ 0 65 (by omega) _).mono ?_
  rintro e w4 ⟨rfl, rfl⟩
  go_wp2_with fail
  refine (bstr_st h3).mono ?_
  rintro e w4 ⟨rfl, rfl⟩
  rw [pB0]
  go_wp2_with fail
  refine (bnew_st h3 sB0).mono ?_
  rintro e w5 ⟨rfl, h5, _⟩
  clear h3
  generalize w3.heap.size = x at h5 ⊢
  generalize w.heap.size = y at h5 ⊢
  go_wp2_with fail
  refine (btake_st h5 (by decide) 3 (by omega) (by decide)).mono ?_
  rintro e w6 ⟨rfl, h6⟩
  rw [n1]
  go_wp2_with fail
  refine (bdone_st h6 (by decide) (by decide)).mono ?_
  rintro e w7 ⟨r, rfl, hr, h7⟩
  obtain rfl : r = 3 := by
    rcases hr with hr | hr
    · exact absurd hr.2 r3
    · exact hr.1
  clear hr h6 h5
  go_wp2_with fail
  refine (btake_st h7 (by decide) 1 (by omega) (by decide)).mono ?_
  rintro e w8 ⟨rfl, h8⟩
  rw [show 0 + 3 = 3 from rfl, n2]
  go_wp2_with fail
  refine (btake_end h8 (by decide) (by decide) 5 (by omega) (by decide)).mono ?_
  rintro e w9 ⟨rfl, hx⟩
  have h9 := h8.ext hx
  clear h7 h8 hx
  go_wp2_with fail
  have hs1 : sB0.toList = [176] := by rw [ByteArray.toList_eq]; rfl
  have hl1 : bB0.length = 4 := rfl
  refine (blen_st h9.swap).mono ?_
  rintro e w10 ⟨rfl, rfl⟩
  go_wp2_with fail
  refine (bstr_st h9.swap).mono ?_
  rintro e w10 ⟨rfl, rfl⟩
  rw [pB0]
  go_wp2_with fail
  refine (bat_st h9).mono ?_
  rintro e w10 ⟨rfl, rfl⟩
  go_wp2_with fail
  refine (bdone_st h9 (by decide) (by decide)).mono ?_
  rintro e w10 ⟨r, rfl, hr, h10⟩
  obtain rfl : r = 0 := by
    rcases hr with hr | hr
    · exact hr.1
    · exact absurd r4 hr.2
  go_wp2_with fail
  go_ret
  exact ⟨rfl, h10.ends⟩

set_option maxHeartbeats 2000000 in
theorem bitsNil_walk (n : Nat) (c : Int) (hn : n < 18446744073709551616) (hc : -9223372036854775808 ≤ c ∧ c < 9223372036854775808) (w : World) :
    Calls Try.prog 7 #[.int .u64 n, .int .i64 c] w fun e w' => e = .returned (.bool true) ∧ Ext w w' := by
  go_enter Try.func7, Try.ntmps7
  go_wp2_with (first
    | (go_at_call 16; refine (btake_nil _ _).mono ?_; rintro e w1 ⟨rfl, rfl⟩)
    | (go_at_call 8; refine (bawake_any _).mono ?_; rintro e w2 ⟨rfl, hx⟩)
    | (go_at_call 9; refine (put_nil _ _ _).mono ?_; rintro e w3 ⟨rfl, rfl⟩)
    | (go_at_call 11; refine (len_nil _).mono ?_; rintro e w3 ⟨rfl, rfl⟩)
    | (go_at_call 12; refine (bstr_nil _).mono ?_; rintro e w3 ⟨rfl, rfl⟩)
    | (go_at_call 18; refine (bat_nil _).mono ?_; rintro e w3 ⟨rfl, rfl⟩)
    | (go_at_call 19; refine (bdone_nil _).mono ?_; rintro e w3 ⟨rfl, rfl⟩))
  go_ret
  exact ⟨rfl, hx⟩
end Go.Proofs.Ythbnokaclolknaa
