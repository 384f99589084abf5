/- awake of layer 1's laws. -/
import Derived.Test.YtdgoaojojebpmaaRef
namespace Go.Proofs.Ytdgoaojojebpmaa
open Go.RowKit
set_option linter.unusedVariables false
set_option linter.unusedSimpArgs false

def s123 : ByteArray := ⟨#[1, 2, 3]⟩
theorem s123_size : s123.size = 3 := rfl
set_option maxRecDepth 20000 in
set_option maxHeartbeats 2000000 in
theorem awake_any (w : World) :
    Calls Try.prog 8 #[] w fun e w' => e = .returned (.bool true) ∧ Ext w w' := by
  go_enter Try.func8, Try.ntmps8
  go_wp2_with fail
  refine (new_any s123 _).mono ?_
  rintro e w1 ⟨rfl, rfl⟩
  have R := Lib.hid (Rd.new w s123)
  have X := Lib.hid ((Mut.refl noB w).alloc (.cells #[.string s123, .int .i64 0] 58))
  generalize w.alloc (.cells #[.string s123, .int .i64 0] 58) = w1 at R X ⊢
  go_wp2_with fail
  have c := take_ok R.out (by decide) 2 (by decide)
  rw [show s123.extract 0 (0 + 2) = ⟨#[1, 2]⟩ from rfl] at c
  refine c.mono ?_
  rintro e w2 ⟨rfl, R2, M2⟩
  have R := Lib.hid R2
  have X := Lib.hid (X.out.one M2 (Nat.le_refl _))
  clear c R2 M2
  go_wp2_with fail
  refine (four_end R.out (by decide) (by decide) (by decide)).mono ?_
  rintro e w3 ⟨rfl, x⟩
  have R := Lib.hid (R.out.ext x)
  have X := Lib.hid (X.out.trans x)
  clear x
  go_wp2_with fail
  have c := byte_ok R.out (by decide) (by decide)
  rw [show s123[0 + 2] = 3 from rfl] at c
  refine c.mono ?_
  rintro e w4 ⟨rfl, R2, M2⟩
  have R := Lib.hid R2
  have X := Lib.hid (X.out.one M2 (Nat.le_refl _))
  clear c R2 M2
  go_wp2_with fail
  refine (byte_end R.out (by decide)).mono ?_
  rintro e w5 ⟨rfl, x⟩
  have R5 := Lib.hid (R.out.ext x)
  have R := Lib.hid (R.out.ext x)
  have X := Lib.hid (X.out.trans x)
  clear x
  go_wp2_with fail
  refine (take_neg (-1) (by decide)).mono ?_
  rintro e w6 ⟨rfl, rfl⟩
  go_wp2_with fail
  have W1 := Lib.hid ((Wr.new w5).ext ((Mut.refl noB _).alloc (.cells #[Value.int IntKind.u8 1, Value.int IntKind.u8 2] 5)))
  have R := Lib.hid ((R.out.ext ((Mut.refl noB _).alloc (.cells #[.slice none 0 0] 48))).ext ((Mut.refl noB _).alloc (.cells #[Value.int IntKind.u8 1, Value.int IntKind.u8 2] 5)))
  have hrow := Lib.hid (heap_alloc_self (w5.alloc (.cells #[.slice none 0 0] 48)) (.cells #[Value.int IntKind.u8 1, Value.int IntKind.u8 2] 5))
  have hsz : w.heap.size + 1 ≤ w5.heap.size := R5.out.lt
  have X := Lib.hid ((X.out.alloc (.cells #[.slice none 0 0] 48)).alloc (.cells #[Value.int IntKind.u8 1, Value.int IntKind.u8 2] 5))
  have S := Lib.hid (show w5.heap.size + 1 ≤ ((w5.alloc (.cells #[.slice none 0 0] 48)).alloc (.cells #[Value.int IntKind.u8 1, Value.int IntKind.u8 2] 5)).heap.size by simp)
  rw [World.size_alloc] at hrow
  generalize (w5.alloc (.cells #[.slice none 0 0] 48)).alloc (.cells #[Value.int IntKind.u8 1, Value.int IntKind.u8 2] 5) = w6 at W1 R hrow X S ⊢
  refine (put_any W1.out [1, 2] ⟨w5.heap.size + 1, 0, none⟩ 2 (fun i hi => ?_) (by decide)).mono ?_
  · rw [← cells_of_row (l := [1, 2]) hrow.out i hi]
    congr 1
    unfold Addr.add; split <;> simp_all
  rintro e w7 ⟨rfl, v7, W2, hv, M⟩
  obtain ⟨x, hg, hs⟩ := Wr.next X.out (by omega) (B := w5.heap.size + 1) (by omega) S.out (OwnGe.nil _) hv M
  have R := Lib.hid (R.out.keep M (wrS_not (by omega) (OwnGe.nil (w5.heap.size + 1)) (by omega)))
  have X := Lib.hid x
  have S := Lib.hid hs
  have W1 := Lib.hid W2
  have G := Lib.hid hg
  clear hv M x hg hs W2
  go_wp2_with fail
  refine (text_any W1.out ⟨#[120]⟩ (by decide)).mono ?_
  rintro e w8 ⟨rfl, v8, W2, hv, M⟩
  obtain ⟨x, hg, hs⟩ := Wr.next X.out (by omega) (B := w5.heap.size + 1) (by omega) S.out G.out hv M
  have R := Lib.hid (R.out.keep M (wrS_not (by omega) G.out (by omega)))
  have X := Lib.hid x
  have S := Lib.hid hs
  have W1 := Lib.hid W2
  have G := Lib.hid hg
  clear hv M x hg hs W2
  go_wp2_with fail
  refine (wfour_any W1.out 16777221 (by decide) (by decide)).mono ?_
  rintro e w9 ⟨rfl, v9, W2, hv, M⟩
  obtain ⟨x, hg, hs⟩ := Wr.next X.out (by omega) (B := w5.heap.size + 1) (by omega) S.out G.out hv M
  have R := Lib.hid (R.out.keep M (wrS_not (by omega) G.out (by omega)))
  have X := Lib.hid x
  have W1 := Lib.hid W2
  clear hv M x hg hs W2
  have c1 := at_any R.out
  have c2 := left_any R.out (by decide) (by decide)
  have c3 := str_any W1.out
  rw [show (([] ++ [1, 2] ++ (⟨#[120]⟩ : ByteArray).data.toList ++ le4 16777221 : List UInt8)).toArray = #[1, 2, 120, 5, 0, 0, 1] from rfl] at c3
  have C1 := Lib.hid c1
  have C2 := Lib.hid c2
  have C3 := Lib.hid c3
  clear c1 c2 c3
  go_wp2_with (first
    | (go_at_call 15; refine C1.out.mono ?_; rintro e w10 ⟨rfl, rfl⟩)
    | (go_at_call 16; refine C2.out.mono ?_; rintro e w10 ⟨rfl, x10⟩; have c3 := str_any (W1.out.ext x10); rw [show (([] ++ [1, 2] ++ (⟨#[120]⟩ : ByteArray).data.toList ++ le4 16777221 : List UInt8)).toArray = #[1, 2, 120, 5, 0, 0, 1] from rfl] at c3; have C4 := Lib.hid c3; clear c3)
    | (go_at_call 20; refine C4.out.mono ?_; rintro e w10 ⟨rfl, rfl⟩))
  go_ret
  exact ⟨rfl, X.out.trans x10⟩
end Go.Proofs.Ytdgoaojojebpmaa
