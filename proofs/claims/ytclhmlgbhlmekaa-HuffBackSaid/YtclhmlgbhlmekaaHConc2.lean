/- Layer 7: slices.Concat at bytes. -/
import Derived.Test.YtclhmlgbhlmekaaHConcat
namespace Go.Proofs.Ytclhmlgbhlmekaa
open Go.RowKit Go.WideShapes
set_option linter.unusedVariables false
set_option linter.unusedSimpArgs false
/-- a row of bytes that is read -/
structure RB (w : World) (A : Option Addr) (l : List UInt8) : Prop where
  nil : A = none → l.length = 0
  cells : ∀ ad, A = some ad → ∀ j u, (bytesV l)[j]? = some u → w.cell? (ad.add j) = some u
theorem RB.ext {w w' : World} {A : Option Addr} {l : List UInt8} (h : RB w A l) (x : Ext w w') : RB w' A l := ⟨h.nil, fun ad e j u hu => x.cell (h.cells ad e j u hu)⟩
theorem Own.rb {w : World} {A : Option Addr} {n c : Nat} {l : List UInt8} (h : Own w 5 1 (.slice A n c) n (bytesV l)) (hl : l.length = n) : RB w A l := by
  refine ⟨fun e => ?_, fun ad e j u hu => ?_⟩
  · subst e
    rcases h.2 with ⟨_, e⟩ | ⟨g, cap, cur, e, _⟩
    · omega
    · cases e
  · subst e
    have hj : j < n := by
      rcases Nat.lt_or_ge j n with h | h
      · exact h
      · rw [List.getElem?_eq_none (by rw [bytesV_len]; omega)] at hu; cases hu
    obtain ⟨g, c', e, _⟩ := h.slice (by omega)
    simp only [Value.slice.injEq, Option.some.injEq] at e
    obtain ⟨rfl, _⟩ := e
    rw [add_plain, Nat.zero_add, Own.cell h j (by omega)]
    exact hu
section
variable {W : World} {M : List Thing}
set_option maxRecDepth 20000 in
set_option maxHeartbeats 4000000 in
theorem concat_st {w : World} {g : Nat} {A1 A2 : Option Addr} {n1 c1 n2 c2 : Nat} {l1 l2 : List UInt8} (h : St noB W w (blkT g #[.slice A1 n1 c1, .slice A2 n2 c2] 30 :: M))
    (hr1 : ∀ w', St noB W w' M → RB w' A1 l1) (hr2 : ∀ w', St noB W w' M → RB w' A2 l2) (hl1 : l1.length = n1) (hl2 : l2.length = n2) (h0 : 0 < n1 + n2) (hn1 : n1 ≤ 100000) (hn2 : n2 ≤ 100000) :
    Calls Try.prog 26 #[.slice (some ⟨g, 0, none⟩) 2 2] w fun e w' => ∃ A c, e = .returned (.slice A (n1 + n2) c) ∧ St noB W w' (ownT 5 1 (.slice A (n1 + n2) c) (n1 + n2) (bytesV (l1 ++ l2)) :: M) := by
  have HL1 := Lib.hid hl1
  have HL2 := Lib.hid hl2
  clear hl1 hl2
  have hb := h.blk
  have k0 := cell_of_heap hb 0
  have k1 := cell_of_heap hb 1
  change w.cell? _ = some (Value.slice A1 n1 c1) at k0
  change w.cell? _ = some (Value.slice A2 n2 c2) at k1
  clear hb
  go_enter Try.func26, Try.ntmps26
  go_wp2_with fail
  go_loopw [3, 11] (fun v3 v11 wr => wr = w ∧ ((v3 = .int .i64 0 ∧ v11 = .int .i64 0) ∨ (v3 = .int .i64 n1 ∧ v11 = .int .i64 1) ∨ (v3 = .int .i64 ((n1 : Int) + n2) ∧ v11 = .int .i64 2))) (fun _ v11 _ => 2 - (intOf v11).toNat)
  case atStart => exact ⟨rfl, .inl ⟨rfl, rfl⟩⟩
  case round =>
    obtain ⟨rfl, hc⟩ := hrel
    rcases hc with ⟨rfl, rfl⟩ | ⟨rfl, rfl⟩ | ⟨rfl, rfl⟩
    · go_wp2_with fail
      go_roundw
      case rel => first | exact ⟨trivial, .inr (.inl ⟨rfl, rfl⟩)⟩ | exact ⟨rfl, .inr (.inl ⟨rfl, rfl⟩)⟩
      case measure => first | (simp [intOf]; done) | (simp [intOf]; omega)
    · go_wp2_with fail
      go_roundw
      case rel => first | exact ⟨trivial, .inr (.inr ⟨rfl, rfl⟩)⟩ | exact ⟨rfl, .inr (.inr ⟨rfl, rfl⟩)⟩
      case measure => first | (simp [intOf]; done) | (simp [intOf]; omega)
    · go_wp2_with fail
      have HG := Lib.hid (grow_st h (n1 + n2) h0 (by omega))
      rw [show (((n1 + n2 : Nat)) : Int) = (n1 : Int) + n2 from by omega] at HG
      refine HG.out.mono ?_
      rintro e w2 ⟨A, c, rfl, h2⟩
      clear HG h k0 k1
      go_wp2_with fail
      go_loopw [6, 27] (fun v6 v27 wr => ∃ (k n : Nat) (A : Option Addr) (c : Nat) (l : List UInt8), v6 = .slice A n c ∧ v27 = .int .i64 k ∧ ((k = 0 ∧ n = 0 ∧ Hid (l = [])) ∨ (k = 1 ∧ n = n1 ∧ Hid (l = l1)) ∨ (k = 2 ∧ n = n1 + n2 ∧ Hid (l = l1 ++ l2))) ∧ St noB W wr (ownT 5 1 (.slice A n c) n (bytesV l) :: blkT g #[.slice A1 n1 c1, .slice A2 n2 c2] 30 :: M)) (fun _ v27 _ => 2 - (intOf v27).toNat)
      case atStart => exact ⟨0, 0, A, c, [], rfl, rfl, .inl ⟨rfl, rfl, Lib.hid rfl⟩, h2⟩
      case round =>
        clear h2
        obtain ⟨k, n, A, c, l, rfl, rfl, hc, h⟩ := hrel
        rcases hc with ⟨rfl, rfl, HL⟩ | ⟨rfl, rfl, HL⟩ | ⟨rfl, rfl, HL⟩
        · have hb := h.swap.blk
          have k0 := cell_of_heap hb 0
          change wr.cell? _ = some (Value.slice A1 n1 c1) at k0
          have HR := Lib.hid (hr1 wr h.drop.drop)
          clear hb
          go_wp2_with (at_builtin; refine wpList_pushAll rfl _ _ _ rfl 5 (.int .u8 0) 1 1 Try.underlying30 byte_info rfl (by decide) h h A1 n1 c1 (bytesV l1) rfl rfl (by rw [bytesV_len, HL1.out]; omega) (fun e => by rw [← HL1.out]; exact HR.out.nil e) HR.out.cells (bytesV_one _) (by unfold maxLen; omega) (by omega) ?_; intro A' c' w3 h3 h4)
          rw [← bytesV_append, Nat.zero_add] at h3
          refine ⟨⟨1, n1, A', c', l ++ l1, rfl, by go_num, .inr (.inl ⟨rfl, rfl, Lib.hid (by rw [HL.out]; rfl)⟩), h3⟩, by simp [intOf]⟩
        · have hb := h.swap.blk
          have k1 := cell_of_heap hb 1
          change wr.cell? _ = some (Value.slice A2 n2 c2) at k1
          have HR := Lib.hid (hr2 wr h.drop.drop)
          clear hb
          go_wp2_with (at_builtin; refine wpList_pushAll rfl _ _ _ rfl 5 (.int .u8 0) 1 1 Try.underlying30 byte_info rfl (by decide) h h A2 n2 c2 (bytesV l2) rfl rfl (by rw [bytesV_len, HL2.out]; omega) (fun e => by rw [← HL2.out]; exact HR.out.nil e) HR.out.cells (bytesV_one _) (by unfold maxLen; omega) (by omega) ?_; intro A' c' w3 h3 h4)
          rw [← bytesV_append] at h3
          refine ⟨⟨2, n + n2, A', c', l ++ l2, rfl, by go_num, .inr (.inr ⟨rfl, rfl, Lib.hid (by rw [HL.out])⟩), h3⟩, by simp [intOf]⟩
        · go_wp2_with fail
          go_ret
          rw [HL.out] at h
          exact ⟨A, c, rfl, h.swap.drop⟩
end
end Go.Proofs.Ytclhmlgbhlmekaa
