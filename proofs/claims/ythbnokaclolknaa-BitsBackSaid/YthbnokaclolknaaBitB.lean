/- BitsBack: the walk. -/
import Derived.Test.YthbnokaclolknaaBitP
namespace Go.Proofs.Ythbnokaclolknaa
open Go.RowKit
set_option linter.unusedVariables false
set_option linter.unusedSimpArgs false
/-- the bits of the first i pieces -/
def bitsTo (ps : List (Nat × Int)) (i : Nat) : List Bool := (ps.take i).flatMap fun p => bitsOf p.1 p.2.toNat
theorem bitsTo_succ (ps : List (Nat × Int)) (i n c : Nat) (h : ps[i]? = some (n, (c : Int))) : bitsTo ps (i + 1) = bitsTo ps i ++ bitsOf n c := by
  unfold bitsTo
  rw [List.take_add_one, h]
  simp
theorem bitsTo_len (ps : List (Nat × Int)) (h : ∀ (i n : Nat) (c : Int), ps[i]? = some (n, c) → 0 ≤ c ∧ c ≤ 64) : ∀ i, (bitsTo ps i).length ≤ 64 * i
  | 0 => by simp [bitsTo]
  | i + 1 => by
    have ih := bitsTo_len ps h i
    cases e : ps[i]? with
    | none => rw [bitsTo, List.take_add_one, e]; simp only [Option.toList_none, List.append_nil]; exact Nat.le_trans ih (by omega)
    | some p =>
      obtain ⟨n, c⟩ := p
      obtain ⟨k, rfl⟩ : ∃ k : Nat, c = k := ⟨c.toNat, by have := h i n c e; omega⟩
      have := h i n k e
      rw [bitsTo_succ ps i n k e, List.length_append, bitsOf_len]; omega
theorem bitsTo_mid (ps : List (Nat × Int)) (i n c m : Nat) (hi : i < m) (h : ps[i]? = some (n, (c : Int))) (j : Nat) (hj : j < c) : gd (bitsTo ps m) ((bitsTo ps i).length + j) = gd (bitsOf n c) j := by
  have e : ∃ R, bitsTo ps m = bitsTo ps (i + 1) ++ R := by
    refine ⟨((ps.drop (i + 1)).take (m - (i + 1))).flatMap fun p => bitsOf p.1 p.2.toNat, ?_⟩
    unfold bitsTo
    rw [← List.flatMap_append, ← List.take_add, show i + 1 + (m - (i + 1)) = m by omega]
  obtain ⟨R, e⟩ := e
  rw [e, bitsTo_succ ps i n c h, List.append_assoc, gd_append_right, gd_append_left _ _ _ (by rw [bitsOf_len]; exact hj)]
theorem bitsTo_le (ps : List (Nat × Int)) {i m : Nat} (h : i ≤ m) : (bitsTo ps i).length ≤ (bitsTo ps m).length := by
  have e : bitsTo ps m = bitsTo ps i ++ ((ps.drop i).take (m - i)).flatMap fun p => bitsOf p.1 p.2.toNat := by
    unfold bitsTo
    rw [← List.flatMap_append, ← List.take_add, show i + (m - i) = m by omega]
  rw [e, List.length_append]; omega
theorem read_back (ps : List (Nat × Int)) (i n c m : Nat) (hi : i < m) (h : ps[i]? = some (n, (c : Int))) (hle : (bitsTo ps i).length + c ≤ (bitsTo ps m).length) :
    nm (sb (pack (bitsTo ps m))) (bitsTo ps i).length c = numL (bitsOf n c) := by
  unfold numL
  rw [bitsOf_len]
  apply nm_shift
  intro j hj
  rw [Nat.zero_add, pack_eq, sb_cbytes _ _ _ (by omega), bitsTo_mid ps i n c m hi h j hj]
theorem rest_none (L : List Bool) : rest0 (pack L) L.length := by
  refine ⟨by rw [pack_len]; omega, fun i hi => ?_⟩
  rw [pack_len] at hi
  rw [pack_eq, sb_cbytes _ _ _ (by omega), gd_ge _ _ (by omega)]

set_option maxRecDepth 20000 in
set_option maxHeartbeats 4000000 in
theorem bitsBack_walk (A : Option Addr) (ca : Nat) (ps : List (Nat × Int)) (w : World) (ra : ArgRow repPiece 2 w A ps.length ps) (hpa : ps.length ≤ 9223372036854775807) :
    Calls Try.prog 5 #[.slice A ps.length ca] w fun e w' => e = .returned (.bool true) ∧ Ext w w' := by
  obtain ⟨m, hm⟩ : ∃ m, m = ps.length := ⟨_, rfl⟩
  rw [← hm] at ra hpa ⊢
  have HM := Lib.hid hm
  clear hm
  by_cases h1 : m ≤ 100
  · go_enter Try.func5, Try.ntmps5
    go_wp2_with (go_at_call 8; refine (bawake_any _).mono ?_; rintro e w1 ⟨rfl, x1⟩)
    have h := ((St.start noB w).ext x1).newBw
    obtain ⟨x, hx⟩ : ∃ x, x = w1.heap.size := ⟨_, rfl⟩
    rw [← hx] at h ⊢
    clear hx
    go_loopw [21] (fun vi wr => ∃ i : Nat, i ≤ m ∧ vi = .int .i64 i ∧ (bitsTo ps i).length ≤ 64 * i ∧ Hid (∀ (j n : Nat) (c : Int), j < i → ps[j]? = some (n, c) → 0 ≤ c ∧ c ≤ 64) ∧ St noB w wr [bwT x (bitsTo ps i)]) (fun vi _ => m - (intOf vi).toNat)
    case atStart => exact ⟨0, by omega, rfl, by simp [bitsTo], Lib.hid (fun j n c hj => by omega), h⟩
    case round =>
      clear h
      obtain ⟨i, hi, rfl, hl, hin, h⟩ := hrel
      by_cases hlt : i < m
      · obtain ⟨b, off, n, c, rfl, hg, hc0, hc1, hn, hc⟩ := (ra.ext h.ends).getPiece i hlt
        have HG := Lib.hid hg
        clear hg
        by_cases hr : c < 0 ∨ 64 < c
        · have hE := h.ends.alloc (.cells #[.int .u64 (n : Nat), .int .i64 c] 30)
          rcases hr with hr | hr
          · go_wp2_with fail
            go_ret
            exact ⟨rfl, hE⟩
          · have hr2 : ¬ c < 0 := by omega
            go_wp2_with fail
            go_ret
            exact ⟨rfl, hE⟩
        · obtain ⟨k, rfl⟩ : ∃ k : Nat, c = k := ⟨c.toNat, by omega⟩
          have hk : k ≤ 64 := by omega
          have hr1 : ¬ (k : Int) < 0 := by omega
          have hr2 : ¬ (64 : Int) < k := by omega
          have h0 := h.alloc #[.int .u64 (n : Nat), .int .i64 k] 30
          have HB := Lib.hid (bput_st h0.swap n k hn hk (by omega))
          have HS := Lib.hid (bitsTo_succ ps i n k HG.out)
          have HI := Lib.hid (show ∀ (j n : Nat) (c : Int), j < i + 1 → ps[j]? = some (n, c) → 0 ≤ c ∧ c ≤ 64 by
            intro j n' c' hj he
            by_cases hji : j < i
            · exact hin.out j n' c' hji he
            · obtain rfl : j = i := by omega
              rw [HG.out] at he; cases he; omega)
          clear hc hr h0
          go_wp2_with (go_at_call 9; refine HB.out.mono ?_; rintro e w2 ⟨rfl, h2⟩)
          have h3 : St noB w w2 [bwT x (bitsTo ps (i + 1))] := by rw [HS.out]; exact h2.swap.drop
          have hl2 : (bitsTo ps (i + 1)).length ≤ 64 * (i + 1) := by rw [HS.out, List.length_append, bitsOf_len]; omega
          go_roundw
          case rel => first | exact ⟨i + 1, by omega, by go_num, hl2, HI, h3⟩ | ((repeat apply Exists.intro); exact ⟨⟨i + 1, by omega, by go_num, hl2, HI, h3⟩, rfl⟩)
          case measure => simp [intOf]; omega
      · obtain rfl : i = m := by omega
        obtain ⟨L, hL⟩ : ∃ L, L = bitsTo ps i := ⟨_, rfl⟩
        have HL := Lib.hid hL
        rw [← hL] at h hl
        clear hL
        have hsz := packed_size L
        obtain ⟨s, hs⟩ : ∃ s : ByteArray, s = ⟨(pack L).toArray⟩ := ⟨_, rfl⟩
        have HS := Lib.hid hs
        rw [← hs] at hsz
        have HZ := Lib.hid hsz
        have hsb : s.size ≤ 801 := by omega
        clear hs hsz
        have c1 := Lib.hid (bstr_st h)
        rw [← HS.out] at c1
        go_wp2_with (first
          | (go_at_call 12; refine c1.out.mono ?_; rintro e w5 ⟨rfl, rfl⟩)
          | (go_at_call 14; refine (bnew_st h s).mono ?_; rintro e w6 ⟨rfl, h6, z6⟩))
        clear c1 z6
        generalize wr.heap.size = r at h6 ⊢
        obtain ⟨m, hm2⟩ : ∃ m, m = i := ⟨_, rfl⟩
        rw [← hm2] at ra hpa h1 hin HL hl ⊢
        clear hm2
        go_loopw [43] (fun vi wr => ∃ j : Nat, j ≤ m ∧ vi = .int .i64 j ∧ St noB w wr [brT r s (bitsTo ps j).length, bwT x L]) (fun vi _ => m - (intOf vi).toNat)
        case atStart => exact ⟨0, by omega, rfl, by simpa [bitsTo] using h6⟩
        case round =>
          clear h6 h
          obtain ⟨j, hj, rfl, h⟩ := hrel
          by_cases hlt : j < m
          · obtain ⟨b, off, n, c, rfl, hg, hc0, hc1, hn, hc⟩ := (ra.ext h.ends).getPiece j hlt
            have HG := Lib.hid hg
            have hrange := hin.out j n c hlt hg
            clear hg
            obtain ⟨k, rfl⟩ : ∃ k : Nat, c = k := ⟨c.toNat, by omega⟩
            have hk : k ≤ 64 := by omega
            have HS2 := Lib.hid (bitsTo_succ ps j n k HG.out)
            have hle : (bitsTo ps j).length + k ≤ L.length := by
              have := bitsTo_le ps (show j + 1 ≤ m by omega)
              rw [HS2.out, List.length_append, bitsOf_len, ← HL.out] at this
              exact this
            have HV := Lib.hid (show nm (sb s.data.toList) (bitsTo ps j).length k = numL (bitsOf n k) by
              rw [HS.out]
              have := read_back ps j n k m hlt HG.out (by rw [← HL.out]; exact hle)
              rw [← HL.out] at this
              exact this)
            have HP := Lib.hid (show (bitsTo ps (j + 1)).length = (bitsTo ps j).length + k by rw [HS2.out, List.length_append, bitsOf_len])
            have h0 := h.alloc #[.int .u64 (n : Nat), .int .i64 k] 30
            have HT := Lib.hid (btake_st h0.swap (by omega) k hk (by rw [HZ.out]; omega))
            rw [HV.out, ← HP.out] at HT
            clear hc h0 hle
            obtain ⟨V, hV⟩ : ∃ V, V = numL (bitsOf n k) := ⟨_, rfl⟩
            have HVV := Lib.hid hV
            rw [← hV] at HT
            clear hV
            go_wp2_with (first
              | (go_at_call 16; refine HT.out.mono ?_; rintro e w7 ⟨rfl, h7⟩; have hb7 := h7.swap.blk; have k0 : w7.cell? ⟨wr.heap.size, 0, none⟩ = some (.int .u64 (n : Nat)) := cell_of_heap hb7 0; have k1 : w7.cell? ⟨wr.heap.size, 1, none⟩ = some (.int .i64 k) := cell_of_heap hb7 1; clear hb7)
              | (go_at_call 10; refine (rbits_st h7 n k hn hk).mono ?_; rintro e w8 ⟨g8, rfl, h8⟩; have hbr := h8.own; rw [bitsOf_len] at hbr; have HNU := Lib.hid (rnumber_any (w := w8) (some ⟨g8, 0, none⟩) k (bitsOf n k) (by rw [bitsOf_len]; exact hk) (Own.brow (by rw [bitsOf_len]; exact hbr))); rw [bitsOf_len, ← HVV.out] at HNU; clear hbr)
              | (go_at_call 17; refine HNU.out.mono ?_; rintro e w9 ⟨rfl, x9⟩))
            have h9 : St noB w w9 [brT r s (bitsTo ps (j + 1)).length, bwT x L] := ((h8.drop.swap.drop).ext x9)
            go_roundw
            case rel => first | exact ⟨j + 1, by omega, by go_num, h9⟩ | ((repeat apply Exists.intro); exact ⟨⟨j + 1, by omega, by go_num, h9⟩, rfl⟩)
            case measure => simp [intOf]; omega
          · obtain rfl : j = m := by omega
            rw [← HL.out] at h
            have hrest : rest0 s.data.toList L.length := by rw [HS.out]; exact rest_none L
            have HR := Lib.hid hrest
            have HD := Lib.hid (bdone_st h (by rw [HZ.out]; omega) (by omega))
            clear hrest
            go_wp2_with (first
              | (go_at_call 19; refine HD.out.mono ?_; rintro e w8 ⟨r0, rfl, hr0, h8⟩; obtain rfl : r0 = 0 := (hr0.resolve_right (fun hh => hh.2 HR.out)).1; clear hr0; have ca := Lib.hid (bat_st h8); have cl := Lib.hid (blen_st h8.swap))
              | (go_at_call 18; refine ca.out.mono ?_; rintro e w9 ⟨rfl, rfl⟩)
              | (go_at_call 11; refine cl.out.mono ?_; rintro e w9 ⟨rfl, rfl⟩))
            go_ret
            exact ⟨rfl, h8.ends⟩
  · go_enter Try.func5, Try.ntmps5
    go_wp2_with (go_at_call 8; refine (bawake_any _).mono ?_; rintro e w1 ⟨rfl, x1⟩)
    go_ret
    exact ⟨rfl, Mut.trans (by assumption) x1⟩
end Go.Proofs.Ythbnokaclolknaa
