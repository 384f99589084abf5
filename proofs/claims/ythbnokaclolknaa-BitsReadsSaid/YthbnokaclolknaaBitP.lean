/- BitsWrites: the walk. -/
import Derived.Test.YthbnokaclolknaaBitJ
namespace Go.Proofs.Ythbnokaclolknaa
open Go.RowKit
set_option linter.unusedVariables false
set_option linter.unusedSimpArgs false
def repPiece (o : Nat × Int) (cs : List Value) : Prop := cs = [.int .u64 o.1, .int .i64 o.2] ∧ o.1 < 18446744073709551616 ∧ (-9223372036854775808 ≤ o.2 ∧ o.2 < 9223372036854775808)
theorem repPiece_of {H : Type} {enc : TypeId × Value → H} {w : World} {base : Nat} {spare : Nat → Bool} {held : Bool} (n : Nat) (cs : List Value) (y : DataW H × List MemPlace) (_ : cs.length = 2) (h : DataW.trod enc Try.prog w base spare held n 30 cs = some y) : ∃ a, repPiece a cs := by
  obtain ⟨hl, hf⟩ := cells_of_struct Try.underlying30 (by kernel_rfl) (by kernel_rfl) h
  obtain ⟨v0, y0, n0, e0, t0⟩ := hf 0 _ rfl
  obtain ⟨v1, y1, n1, e1, t1⟩ := hf 1 _ rfl
  obtain ⟨a0, h0, _, k0⟩ := DataW.trod_int Try.underlying28 t0
  obtain ⟨a1, h1, _, k1⟩ := DataW.trod_int Try.underlying3 t1
  simp at h0 h1
  subst h0 h1
  obtain ⟨b0, rfl, j0⟩ := wf_u64 k0
  match cs, hl with
  | [c0, c1], _ =>
    simp at e0 e1
    subst e0 e1
    exact ⟨(b0, a1), rfl, j0, wf_i64 k1⟩
theorem ArgRow.getPiece {w : World} {A : Option Addr} {len : Nat} {l : List (Nat × Int)} (h : ArgRow repPiece 2 w A len l) (i : Nat) (hi : i < len) : ∃ b off k n, A = some ⟨b, off, none⟩ ∧ l[i]? = some (k, n) ∧ w.cell? ⟨b, off + i * 2, none⟩ = some (.int .u64 (k : Nat)) ∧ w.cell? ⟨b, off + i * 2 + 1, none⟩ = some (.int .i64 n) ∧ k < 18446744073709551616 ∧ (-9223372036854775808 ≤ n ∧ n < 9223372036854775808) := by
  rcases h.2 with h2 | ⟨b, off, hA, hc⟩
  · omega
  · have hl : i < l.length := by rw [h.1]; exact hi
    obtain ⟨cs, ⟨rfl, hB, hC⟩, h2, h3⟩ := hc i l[i] (List.getElem?_eq_getElem hl)
    exact ⟨b, off, _, _, hA, List.getElem?_eq_getElem hl, by simpa using h3 0 _ rfl, by simpa [Nat.add_assoc] using h3 1 _ rfl, hB, hC⟩

set_option maxRecDepth 20000 in
set_option maxHeartbeats 4000000 in
theorem bitsWrites_walk (A : Option Addr) (ca : Nat) (ps : List (Nat × Int)) (w : World) (ra : ArgRow repPiece 2 w A ps.length ps) (hpa : ps.length ≤ 9223372036854775807) :
    Calls Try.prog 3 #[.slice A ps.length ca] w fun e w' => e = .returned (.bool true) ∧ Ext w w' := by
  obtain ⟨m, hm⟩ : ∃ m, m = ps.length := ⟨_, rfl⟩
  rw [← hm] at ra hpa ⊢
  have HM := Lib.hid hm
  clear hm
  by_cases h1 : m ≤ 100
  · go_enter Try.func3, Try.ntmps3
    go_wp2_with (go_at_call 8; refine (bawake_any _).mono ?_; rintro e w1 ⟨rfl, x1⟩)
    have h := (((St.start noB w).ext x1).newBw).nilOwn 4 1
    obtain ⟨x, hx⟩ : ∃ x, x = w1.heap.size := ⟨_, rfl⟩
    rw [← hx] at h ⊢
    clear hx
    go_loopw [4, 18] (fun v4 vi wr => ∃ (i : Nat) (v : Value) (L : List Bool), i ≤ m ∧ v4 = v ∧ vi = .int .i64 i ∧ L.length ≤ 64 * i ∧ St noB w wr [blT v L, bwT x L]) (fun _ vi _ => m - (intOf vi).toNat)
    case atStart => exact ⟨0, _, [], by omega, rfl, rfl, by simp, h⟩
    case round =>
      clear h
      obtain ⟨i, v, L, hi, rfl, rfl, hl, h⟩ := hrel
      obtain ⟨A4, c4, e4⟩ := h.own.form
      subst e4
      by_cases hlt : i < m
      · obtain ⟨b, off, n, c, rfl, hg, hc0, hc1, hn, hc⟩ := (ra.ext h.ends).getPiece i hlt
        clear hg
        by_cases hr : c < 0 ∨ 64 < c
        · have PA := Lib.hid (fun x w => put_arg x n c hr w)
          rcases hr with hr | hr
          · go_wp2_with (first | (go_at_call 9; refine (PA.out _ _).mono ?_; rintro e w2 ⟨rfl, rfl⟩))
            have h5 := h.ext ((Mut.refl noB wr).alloc (.cells #[.int .u64 (n : Nat), .int .i64 c] 30))
            go_roundw
            case rel => first | exact ⟨i + 1, _, L, by omega, rfl, by go_num, by omega, h5⟩ | ((repeat apply Exists.intro); exact ⟨⟨i + 1, _, L, by omega, rfl, by go_num, by omega, h5⟩, rfl⟩)
            case measure => simp [intOf]; omega
          · have hr2 : ¬ c < 0 := by omega
            go_wp2_with (first | (go_at_call 9; refine (PA.out _ _).mono ?_; rintro e w2 ⟨rfl, rfl⟩))
            have h5 := h.ext ((Mut.refl noB wr).alloc (.cells #[.int .u64 (n : Nat), .int .i64 c] 30))
            go_roundw
            case rel => first | exact ⟨i + 1, _, L, by omega, rfl, by go_num, by omega, h5⟩ | ((repeat apply Exists.intro); exact ⟨⟨i + 1, _, L, by omega, rfl, by go_num, by omega, h5⟩, rfl⟩)
            case measure => simp [intOf]; omega
        · obtain ⟨k, rfl⟩ : ∃ k : Nat, c = k := ⟨c.toNat, by omega⟩
          have hk : k ≤ 64 := by omega
          have hr1 : ¬ (k : Int) < 0 := by omega
          have hr2 : ¬ (64 : Int) < k := by omega
          have h0 := h.alloc #[.int .u64 (n : Nat), .int .i64 k] 30
          have HB := Lib.hid (bput_st (h0.pull 2) n k hn hk (by omega))
          obtain ⟨Z, hZ⟩ : ∃ Z, Z = wr.alloc (.cells #[.int .u64 (n : Nat), .int .i64 k] 30) := ⟨_, rfl⟩
          clear hc hr h0
          go_wp2_with (first
            | (go_at_call 9; refine HB.out.mono ?_; rintro e w2 ⟨rfl, h2⟩; have hb2 := h2.swap.blk; have k0 : w2.cell? ⟨wr.heap.size, 0, none⟩ = some (.int .u64 (n : Nat)) := cell_of_heap hb2 0; have k1 : w2.cell? ⟨wr.heap.size, 1, none⟩ = some (.int .i64 k) := cell_of_heap hb2 1; clear hb2)
            | (go_at_call 10; refine (rbits_st h2 n k hn hk).mono ?_; rintro e w3 ⟨g3, rfl, h3⟩; have hbl := h3.own; have hol := (h3.pull 3).own; rw [bitsOf_len] at hbl)
            | (at_builtin; refine wpList_append _ rfl _ _ _ rfl 4 (.bool false) 1 1 Try.underlying27 bool_info rfl (by decide) (.slice A4 L.length c4) L.length (boolsV L) rfl hol ⟨g3, 0, none⟩ k k (boolsV (bitsOf n k)) rfl (by rw [boolsV_len, bitsOf_len, Nat.mul_one]) (World.ownsRow.cells hbl (g := g3) rfl) (boolsV_one _) (by unfold maxLen; omega) (by omega) ?_; intro v' w4 ho hm hv; obtain ⟨A5, c5, rfl⟩ := ho.form; have h4 := (h3.pull 3).appended ho hm hv; clear hbl hol; have h5 := (h4.pull 2))
            | (go_at_call 11; refine (blen_st h5).mono ?_; rintro e w5 ⟨rfl, rfl⟩; rw [List.length_append, bitsOf_len]))
          have h6 : St noB w w4 [blT (.slice A5 (L.length + k) c5) (L ++ bitsOf n k), bwT x (L ++ bitsOf n k)] := by
            unfold blT
            rw [List.length_append, bitsOf_len, boolsV_append]
            exact (h4.swap.drop.pull 2).drop
          have hl2 : (L ++ bitsOf n k).length ≤ 64 * (i + 1) := by rw [List.length_append, bitsOf_len]; omega
          go_roundw
          case rel => first | exact ⟨i + 1, _, _, by omega, rfl, by go_num, hl2, h6⟩ | ((repeat apply Exists.intro); exact ⟨⟨i + 1, _, _, by omega, rfl, by go_num, hl2, h6⟩, rfl⟩)
          case measure => simp [intOf]; omega
      · obtain rfl : i = m := by omega
        have HR := Lib.hid (fun e => rbytes_any (w := e) A4 c4 L (by omega))
        have hbr := h.own.brow
        have c1 := Lib.hid (blen_st h.swap)
        have c2 := Lib.hid (bstr_st h.swap)
        have c3 := Lib.hid (HR.out wr hbr)
        clear HR hbr
        go_wp2_with (first
          | (go_at_call 11; refine c1.out.mono ?_; rintro e w5 ⟨rfl, rfl⟩)
          | (go_at_call 12; refine c2.out.mono ?_; rintro e w5 ⟨rfl, rfl⟩)
          | (go_at_call 13; refine c3.out.mono ?_; rintro e w5 ⟨rfl, x5⟩))
        go_ret
        exact ⟨rfl, h.ends.trans x5⟩
  · go_enter Try.func3, Try.ntmps3
    go_wp2_with (go_at_call 8; refine (bawake_any _).mono ?_; rintro e w1 ⟨rfl, x1⟩)
    go_ret
    exact ⟨rfl, Mut.trans (by assumption) x1⟩
end Go.Proofs.Ythbnokaclolknaa
