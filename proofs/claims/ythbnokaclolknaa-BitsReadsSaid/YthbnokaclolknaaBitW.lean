/- Layer 6's writer. -/
import Derived.Test.YthbnokaclolknaaComp
import Derived.Test.YthbnokaclolknaaPure
import Derived.Test.YthbnokaclolknaaRows
import Derived.StillTailTactics
namespace Go.Proofs.Ythbnokaclolknaa
open Go.RowKit
set_option linter.unusedVariables false
set_option linter.unusedSimpArgs false

theorem b_uint8_info : (Try.prog.info? 5).map (fun i => (i.zero, i.size, i.bytes)) = some (some (.int .u8 0), 1, 1) := by kernel_rfl
/-- the writer at b holds the bits L -/
abbrev bwL (b : Nat) (L : List Bool) (v : Value) : List Thing := [ownT 5 1 v (pack L).length (bytesV (pack L)), blkT b #[v, .int .i64 (L.length : Nat)] 26]
def bwT (b : Nat) (L : List Bool) : Thing := allT (bwL b L)
theorem St.newBw {S : Nat → Prop} {W w : World} {M : List Thing} (h : St S W w M) : St S W (w.alloc (.cells #[.slice none 0 0, .int .i64 0] 26)) (bwT w.heap.size [] :: M) :=
  St.close (.slice none 0 0) ((h.alloc _ _).nilOwn _ _)

theorem St.bwOpen {S : Nat → Prop} {W w : World} {M : List Thing} {b : Nat} {L : List Bool} (h : St S W w (bwT b L :: M)) :
    ∃ v, St S W w (ownT 5 1 v (pack L).length (bytesV (pack L)) :: blkT b #[v, .int .i64 (L.length : Nat)] 26 :: M) := h.open
theorem St.bwClose {S : Nat → Prop} {W w : World} {M : List Thing} {b : Nat} {L : List Bool} {v : Value} {l : List UInt8} {m T : Nat} (h : St S W w (ownT 5 1 v m (bytesV l) :: blkT b #[v, .int .i64 (T : Nat)] 26 :: M))
    (hl : l = pack L) (hm : m = (pack L).length) (hT : T = L.length) : St S W w (bwT b L :: M) := by
  subst hl; subst hm; subst hT; exact St.close v h

theorem put_nil (n : Nat) (c : Int) (w : World) :
    Calls Try.prog 9 #[.pointer none, .int .u64 n, .int .i64 c] w fun e w' => e = .returned (.int .i64 15) ∧ w = w' := by
  go_enter Try.func9, Try.ntmps9
  go_wp2
  go_ret
  exact ⟨rfl, rfl⟩
theorem put_arg (b n : Nat) (c : Int) (hc : c < 0 ∨ 64 < c) (w : World) :
    Calls Try.prog 9 #[.pointer (some ⟨b, 0, none⟩), .int .u64 n, .int .i64 c] w fun e w' => e = .returned (.int .i64 1) ∧ w = w' := by
  go_enter Try.func9, Try.ntmps9
  rcases hc with hc | hc
  · go_wp2
    go_ret
    exact ⟨rfl, rfl⟩
  · have : ¬ c < 0 := by omega
    go_wp2
    go_ret
    exact ⟨rfl, rfl⟩
theorem bv_ofNat (n : Nat) : bv (UInt8.ofNat n) = .int .u8 ((n % 256 : Nat) : Int) := by simp [bv]
theorem bit_and (x : Nat) (hx : x < 2 ^ 64) : bits .and .u64 (x : Int) 1 = ((x % 2 : Nat) : Int) := by
  rw [show (1 : Int) = ((1 : Nat) : Int) by rfl, u64_and_nat x 1 (by omega) (by omega), Nat.and_one_is_mod]


theorem pack_eq (L : List Bool) : pack L = cbytes ((L.length + 7) / 8) L := rfl
theorem shr_bit (n c k : Nat) (h : k < c) : n / 2 ^ (c - 1 - k) % 2 = (n.testBit (c - 1 - k)).toNat := by
  rw [Nat.testBit_eq_decide_div_mod_eq]
  rcases Nat.mod_two_eq_zero_or_one (n / 2 ^ (c - 1 - k)) with h | h <;> simp [h]

set_option maxHeartbeats 4000000 in
theorem bput_st {S : Nat → Prop} {W w : World} {M : List Thing} {b : Nat} {L : List Bool} (h : St S W w (bwT b L :: M)) (n c : Nat) (hn : n < 18446744073709551616) (hc : c ≤ 64) (hs : L.length + c ≤ 140737488355328) :
    Calls Try.prog 9 #[.pointer (some ⟨b, 0, none⟩), .int .u64 n, .int .i64 c] w fun e w' => e = .returned (.int .i64 0) ∧ St S W w' (bwT b (L ++ bitsOf n c) :: M) := by
  have h1 : ¬ (c : Int) < 0 := by omega
  have h2 : ¬ (64 : Int) < c := by omega
  go_enter Try.func9, Try.ntmps9
  go_wp2_with fail
  go_loopw [7] (fun vi wr => ∃ k : Nat, k ≤ c ∧ vi = .int .i64 ((c : Int) - 1 - k) ∧ St S W wr (bwT b (L ++ (bitsOf n c).take k) :: M)) (fun vi _ => (intOf vi + 1).toNat)
  case atStart => exact ⟨0, by omega, by simp, by simpa using h⟩
  case round =>
    clear h
    obtain ⟨k, hk, rfl, h⟩ := hrel
    by_cases hlt : k < c
    · have hge : (0 : Int) ≤ (c : Int) - 1 - k := by omega
      obtain ⟨L', hL'⟩ : ∃ L', L' = L ++ (bitsOf n c).take k := ⟨_, rfl⟩
      have hlen : L'.length = L.length + k := by rw [hL', List.length_append, List.length_take, bitsOf_len]; omega
      have HN := Lib.hid (show L ++ (bitsOf n c).take (k + 1) = L' ++ [n.testBit (c - 1 - k)] by rw [bitsOf_take n c k hlt, hL', List.append_assoc])
      rw [← hL'] at h
      have HL := Lib.hid hL'
      clear hL'
      obtain ⟨T, hT⟩ : ∃ T, T = L'.length := ⟨_, rfl⟩
      obtain ⟨v, h⟩ := h.bwOpen
      obtain ⟨A, cap, rfl⟩ := h.own.form
      have hTb : T ≤ 140737488355328 := by omega
      rw [← hT] at h hlen
      obtain ⟨l, hl⟩ : ∃ l, l = pack L' := ⟨_, rfl⟩
      rw [← hl] at h
      obtain ⟨m, hm⟩ : ∃ m, m = l.length := ⟨_, rfl⟩
      rw [← hm] at h
      have HM := Lib.hid (show m = (T + 7) / 8 by rw [hm, hl, pack_len, ← hT])
      have HLB := Lib.hid hl
      have HT := Lib.hid hT
      have HLEN := Lib.hid hlen
      have hmb : m ≤ 140737488355327 := by have := HM.out; omega
      clear hT hl hm hlen
      have hb := h.swap.blk
      have hc0 : wr.cell? ⟨b, 0, none⟩ = some (.slice A m cap) := cell_of_heap hb 0
      have hc1 : wr.cell? ⟨b, 1, none⟩ = some (.int .i64 T) := cell_of_heap hb 1
      have hf0 := free_of_heap hb 0
      have hf1 := free_of_heap hb 1
      clear hb
      have hbb : (bits .and .u64 ((n : Int) / 2 ^ (c - 1 - k)) 1 == 1) = n.testBit (c - 1 - k) := by
        rw [show (n : Int) / 2 ^ (c - 1 - k) = ((n / 2 ^ (c - 1 - k) : Nat) : Int) by push_cast; rfl, bit_and _ (Nat.lt_of_le_of_lt (Nat.div_le_self _ _) hn), shr_bit n c k hlt]
        cases n.testBit (c - 1 - k) <;> rfl
      by_cases h8 : T % 8 = 0
      · have h8b : ((T : Int) % 8 == 0) = true := by simp; omega
        have HLB2 := Lib.hid (show l ++ [0] = cbytes (T / 8 + 1) L' ∧ m + 1 = T / 8 + 1 by
          have e1 := HM.out
          have e2 : (T + 7) / 8 = T / 8 := by omega
          rw [HLB.out, pack_eq, ← HT.out, e2]
          exact ⟨(cbytes_grow _ _ (by rw [← HT.out]; omega)).symm, by omega⟩)
        generalize n.testBit (c - 1 - k) = bit at hbb HN
        cases bit
        · go_wp2_with (at_builtin; refine wpList_append _ rfl _ _ _ rfl 5 (.int .u8 0) 1 1 Try.underlying24 b_uint8_info rfl (by decide) (.slice A m cap) m (bytesV l) rfl (h.ext ((Mut.refl _ _).alloc _)).own ⟨wr.heap.size, 0, none⟩ 1 1 (bytesV [0]) rfl rfl (cells_news (fun i hi => by rw [Go.WideShapes.add_plain, Nat.zero_add]; exact cells_of_row (heap_alloc_self _ _) i hi)) (bytesV_one _) (by unfold maxLen; omega) (by omega) ?_; intro v' w1 ho hm hv; obtain ⟨A', cap', rfl⟩ := ho.form; have h2 := (h.ext ((Mut.refl _ _).alloc _)).appended ho hm hv; have hb2 := h2.swap.blk; have hd0 : w1.cell? ⟨b, 0, none⟩ = some (.slice A m cap) := cell_of_heap hb2 0; have hd1 : w1.cell? ⟨b, 1, none⟩ = some (.int .i64 T) := cell_of_heap hb2 1; have hg0 := free_of_heap hb2 0; have hg1 := free_of_heap hb2 1; have h3 := (h2.swap.set 0 (.slice A' (m + 1) cap')).swap; clear hb2)
          have h3 : St S W (w1.setCell ⟨b, 0, none⟩ (.slice A' (m + 1) cap')) (ownT 5 1 (.slice A' (m + 1) cap') (m + 1) (bytesV (l ++ [0])) :: blkT b #[.slice A' (m + 1) cap', .int .i64 T] 26 :: M) := by rw [bytesV_append]; exact h3
          have HFL : l ++ [0] = cbytes ((T + 1 + 7) / 8) (L' ++ [false]) := by rw [cbytes_snoc_false, HLB2.out.1]; congr 1; omega
          have HFM : m + 1 = (T + 1 + 7) / 8 := by rw [HLB2.out.2]; omega
          have HF := Lib.hid (show St S W _ (bwT b (L ++ (bitsOf n c).take (k + 1)) :: M) from ((h3.swap.set 1 (.int .i64 ((T : Int) + 1))).swap.bwClose (L := L ++ (bitsOf n c).take (k + 1)) (l := (l++[0])) (T := T + 1)
            (by rw [HN.out, pack_eq, List.length_append, ← HT.out]; exact HFL) (by rw [HN.out, pack_len, List.length_append, ← HT.out]; exact HFM) (by rw [HN.out, List.length_append, ← HT.out]; rfl)))
          go_roundw
          case rel => first | exact ⟨k + 1, by omega, by go_num, HF.out⟩ | ((repeat apply Exists.intro); exact ⟨⟨k + 1, by omega, by go_num, HF.out⟩, rfl⟩)
          case measure => simp [intOf]; omega
        · go_wp2_with (at_builtin; refine wpList_append _ rfl _ _ _ rfl 5 (.int .u8 0) 1 1 Try.underlying24 b_uint8_info rfl (by decide) (.slice A m cap) m (bytesV l) rfl (h.ext ((Mut.refl _ _).alloc _)).own ⟨wr.heap.size, 0, none⟩ 1 1 (bytesV [0]) rfl rfl (cells_news (fun i hi => by rw [Go.WideShapes.add_plain, Nat.zero_add]; exact cells_of_row (heap_alloc_self _ _) i hi)) (bytesV_one _) (by unfold maxLen; omega) (by omega) ?_; intro v' w1 ho hm hv; obtain ⟨A', cap', rfl⟩ := ho.form; have h2 := (h.ext ((Mut.refl _ _).alloc _)).appended ho hm hv; have hb2 := h2.swap.blk; have hd0 : w1.cell? ⟨b, 0, none⟩ = some (.slice A m cap) := cell_of_heap hb2 0; have hd1 : w1.cell? ⟨b, 1, none⟩ = some (.int .i64 T) := cell_of_heap hb2 1; have hg0 := free_of_heap hb2 0; have hg1 := free_of_heap hb2 1; have h3 := (h2.swap.set 0 (.slice A' (m + 1) cap')).swap; clear hb2)
          generalize hw2 : w1.setCell ⟨b, 0, none⟩ (.slice A' (m + 1) cap') = w2 at h3 ⊢
          have HL2 := HLB2
          have h3 : St S W w2 (ownT 5 1 (.slice A' (m + 1) cap') (m + 1) (bytesV (l ++ [0])) :: blkT b #[.slice A' (m + 1) cap', .int .i64 T] 26 :: M) := by rw [bytesV_append]; exact h3
          obtain ⟨l2, hl2⟩ : ∃ l2, l2 = l ++ [0] := ⟨_, rfl⟩
          rw [← hl2] at h3 HL2
          clear hl2
          obtain ⟨g, cap3, he, hgl, _, _⟩ := h3.own.slice (by have := HL2.out.2; omega)
          cases he
          have hb3 := h3.swap.blk
          have k0 : w2.cell? ⟨b, 0, none⟩ = some (.slice (some ⟨g, 0, none⟩) (m+1) cap') := cell_of_heap hb3 0
          have k1 : w2.cell? ⟨b, 1, none⟩ = some (.int .i64 T) := cell_of_heap hb3 1
          have kf1 := free_of_heap hb3 1
          have hTm : T / 8 < (m+1) := by have := HL2.out.2; omega
          have kg := h3.own.cell (T / 8) (by omega)
          rw [bytesV_get _ _ (by have e := HL2.out; rw [e.1, cbytes_len]; omega)] at kg
          have kgf := h3.own.free (T / 8)
          have HX := Lib.hid (show (l2.getD (T / 8) 0).toNat = nm (gd L') (8 * (T / 8)) 8 by
            rw [HL2.out.1, List.getD_eq_getElem?_getD, cbytes_get _ _ _ (by have := HL2.out.2; omega), Option.getD_some, byte_toNat])
          obtain ⟨x, hx⟩ : ∃ x, x = (l2.getD (T / 8) 0).toNat := ⟨_, rfl⟩
          have hx8 : x < 256 := by rw [hx]; exact UInt8.toNat_lt _
          have kg2 : w2.cell? ⟨g, T / 8, none⟩ = some (.int .u8 x) := by rw [kg, hx]; rfl
          have HX2 := Lib.hid (show x = nm (gd L') (8 * (T / 8)) 8 from hx.trans HX.out)
          clear kg hb3 hx HX
          have hroom := nm_room L'
          rw [← HT.out, ← HX2.out] at hroom
          have hor : bits .or .u8 (x : Int) ((128 : Int) / 2 ^ (T % 8)) = ((x + 2 ^ (7 - T % 8) : Nat) : Int) := by
            have e : ((128 : Int) / 2 ^ (T % 8)) = ((2 ^ (7 - T % 8) : Nat) : Int) := by
              have : T % 8 < 8 := Nat.mod_lt _ (by omega)
              generalize T % 8 = r at this
              have : r = 0 ∨ r = 1 ∨ r = 2 ∨ r = 3 ∨ r = 4 ∨ r = 5 ∨ r = 6 ∨ r = 7 := by omega
              rcases this with rfl | rfl | rfl | rfl | rfl | rfl | rfl | rfl <;> rfl
            have hp : 2 ^ (7 - T % 8) ≤ 2 ^ 7 := Nat.pow_le_pow_right (by omega) (by omega)
            rw [e, u8_or_nat _ _ (by omega) (by omega), or_bit _ _ hroom]
          have hxb : x + 2 ^ (7 - T % 8) < 256 := by
            have hq := nm8_lt (gd (L' ++ [true])) (8 * (L'.length / 8))
            rw [nm_set (gd L') (gd (L' ++ [true])) (8 * (L'.length / 8)) 8 (L'.length % 8) (Nat.mod_lt _ (by omega)) (by rw [Nat.div_add_mod]; exact gd_ge L' _ (Nat.le_refl _)) (by rw [Nat.div_add_mod]; exact gd_snoc L' true) (fun i hi hne => gd_snoc_ne L' true _ (by omega)), ← HT.out, ← HX2.out] at hq
            exact hq
          obtain ⟨q, hq⟩ : ∃ q, q = T / 8 := ⟨_, rfl⟩
          obtain ⟨r, hr⟩ : ∃ r, r = T % 8 := ⟨_, rfl⟩
          rw [← hq] at kg2 kgf hTm
          rw [← hr] at hor hxb
          have hwq : IntKind.i64.wrap ((T : Int) / 8) = (q : Int) := by rw [IntWalk.i64_in _ (by omega)]; omega
          have hwr : (T : Int).tmod 8 = (r : Int) := by rw [Int.tmod_eq_emod_of_nonneg (by omega)]; omega
          have hr8 : (r : Int) ≤ 8 := by omega
          have hqm : (q : Int) < (m+1) := by omega
          have HQ := Lib.hid hq
          have HR := Lib.hid hr
          clear hq hr
          go_still_tail 18, (by kernel_rfl)
          change wpList _ _ _ _ _ w2.drew
          generalize hw3 : w2.drew = w3
          have h4 : St S W w3 (ownT 5 1 (.slice (some ⟨g, 0, none⟩) (m+1) cap') (m+1) (bytesV l2) :: blkT b #[.slice (some ⟨g, 0, none⟩) (m+1) cap', .int .i64 T] 26 :: M) := by rw [← hw3]; exact h3.ext (Mut.refl _ _).drew
          have h5 := h4.stored q (bv (UInt8.ofNat (x + 2 ^ (7 - r))))
          rw [bytesV_set, bv_ofNat, Nat.mod_eq_of_lt hxb] at h5
          have kf3 := h4.own.free q
          have kg3 : w3.cell? ⟨g, q, none⟩ = some (.int .u8 x) := by rw [← hw3]; exact kg2
          have hgb := h4.ne
          have hbg : b ≠ g := fun e => hgb e.symm
          have hb4 := h4.swap.blk
          have j1 : w3.cell? ⟨b, 1, none⟩ = some (.int .i64 T) := cell_of_heap hb4 1
          have jf1 := free_of_heap hb4 1
          clear hb4
          go_wp2_with fail
          have HFL : l2.set q (UInt8.ofNat (x + 2 ^ (7 - r))) = cbytes ((T + 1 + 7) / 8) (L' ++ [true]) := by
            rw [show (T + 1 + 7) / 8 = T / 8 + 1 by omega, cbytes_snoc_true _ _ (by rw [← HT.out]; omega), ← HT.out, HQ.out, HX2.out, HR.out, HL2.out.1]
          have HFM : (m+1) = (T + 1 + 7) / 8 := by rw [HL2.out.2]; omega
          have HF := Lib.hid (show St S W _ (bwT b (L ++ (bitsOf n c).take (k + 1)) :: M) from ((h5.swap.set 1 (.int .i64 ((T : Int) + 1))).swap.bwClose (L := L ++ (bitsOf n c).take (k + 1)) (l := (l2.set q (UInt8.ofNat (x+2^(7-r))))) (T := T + 1)
            (by rw [HN.out, pack_eq, List.length_append, ← HT.out]; exact HFL) (by rw [HN.out, pack_len, List.length_append, ← HT.out]; exact HFM) (by rw [HN.out, List.length_append, ← HT.out]; rfl)))
          go_roundw
          case rel => first | exact ⟨k + 1, by omega, by go_num, HF.out⟩ | ((repeat apply Exists.intro); exact ⟨⟨k + 1, by omega, by go_num, HF.out⟩, rfl⟩)
          case measure => simp [intOf]; omega
      · have h8b : ((T : Int) % 8 == 0) = false := by rw [beq_eq_false_iff_ne]; omega
        have HLB2 := Lib.hid (show l = cbytes (T / 8 + 1) L' ∧ m = T / 8 + 1 by
          have e1 := HM.out
          have e2 : (T + 7) / 8 = T / 8 + 1 := by omega
          rw [HLB.out, pack_eq, ← HT.out, e2]
          exact ⟨rfl, by omega⟩)
        generalize n.testBit (c - 1 - k) = bit at hbb HN
        cases bit
        · go_wp2_with fail
          have HFL : l = cbytes ((T + 1 + 7) / 8) (L' ++ [false]) := by rw [cbytes_snoc_false, HLB2.out.1]; congr 1; omega
          have HFM : m = (T + 1 + 7) / 8 := by rw [HLB2.out.2]; omega
          have HF := Lib.hid (show St S W _ (bwT b (L ++ (bitsOf n c).take (k + 1)) :: M) from ((h.swap.set 1 (.int .i64 ((T : Int) + 1))).swap.bwClose (L := L ++ (bitsOf n c).take (k + 1)) (l := l) (T := T + 1)
            (by rw [HN.out, pack_eq, List.length_append, ← HT.out]; exact HFL) (by rw [HN.out, pack_len, List.length_append, ← HT.out]; exact HFM) (by rw [HN.out, List.length_append, ← HT.out]; rfl)))
          go_roundw
          case rel => first | exact ⟨k + 1, by omega, by go_num, HF.out⟩ | ((repeat apply Exists.intro); exact ⟨⟨k + 1, by omega, by go_num, HF.out⟩, rfl⟩)
          case measure => simp [intOf]; omega
        · go_wp2_with fail
          generalize hw2 : wr = w2 at h ⊢
          have HL2 := HLB2
          have h3 := h
          obtain ⟨l2, hl2⟩ : ∃ l2, l2 = l := ⟨_, rfl⟩
          rw [← hl2] at h3 HL2
          clear hl2
          clear hc0 hc1 hf0 hf1 h
          obtain ⟨g, cap3, he, hgl, _, _⟩ := h3.own.slice (by have := HL2.out.2; omega)
          cases he
          have hb3 := h3.swap.blk
          have k0 : w2.cell? ⟨b, 0, none⟩ = some (.slice (some ⟨g, 0, none⟩) m cap) := cell_of_heap hb3 0
          have k1 : w2.cell? ⟨b, 1, none⟩ = some (.int .i64 T) := cell_of_heap hb3 1
          have kf1 := free_of_heap hb3 1
          have hTm : T / 8 < m := by have := HL2.out.2; omega
          have kg := h3.own.cell (T / 8) (by omega)
          rw [bytesV_get _ _ (by have e := HL2.out; rw [e.1, cbytes_len]; omega)] at kg
          have kgf := h3.own.free (T / 8)
          have HX := Lib.hid (show (l2.getD (T / 8) 0).toNat = nm (gd L') (8 * (T / 8)) 8 by
            rw [HL2.out.1, List.getD_eq_getElem?_getD, cbytes_get _ _ _ (by have := HL2.out.2; omega), Option.getD_some, byte_toNat])
          obtain ⟨x, hx⟩ : ∃ x, x = (l2.getD (T / 8) 0).toNat := ⟨_, rfl⟩
          have hx8 : x < 256 := by rw [hx]; exact UInt8.toNat_lt _
          have kg2 : w2.cell? ⟨g, T / 8, none⟩ = some (.int .u8 x) := by rw [kg, hx]; rfl
          have HX2 := Lib.hid (show x = nm (gd L') (8 * (T / 8)) 8 from hx.trans HX.out)
          clear kg hb3 hx HX
          have hroom := nm_room L'
          rw [← HT.out, ← HX2.out] at hroom
          have hor : bits .or .u8 (x : Int) ((128 : Int) / 2 ^ (T % 8)) = ((x + 2 ^ (7 - T % 8) : Nat) : Int) := by
            have e : ((128 : Int) / 2 ^ (T % 8)) = ((2 ^ (7 - T % 8) : Nat) : Int) := by
              have : T % 8 < 8 := Nat.mod_lt _ (by omega)
              generalize T % 8 = r at this
              have : r = 0 ∨ r = 1 ∨ r = 2 ∨ r = 3 ∨ r = 4 ∨ r = 5 ∨ r = 6 ∨ r = 7 := by omega
              rcases this with rfl | rfl | rfl | rfl | rfl | rfl | rfl | rfl <;> rfl
            have hp : 2 ^ (7 - T % 8) ≤ 2 ^ 7 := Nat.pow_le_pow_right (by omega) (by omega)
            rw [e, u8_or_nat _ _ (by omega) (by omega), or_bit _ _ hroom]
          have hxb : x + 2 ^ (7 - T % 8) < 256 := by
            have hq := nm8_lt (gd (L' ++ [true])) (8 * (L'.length / 8))
            rw [nm_set (gd L') (gd (L' ++ [true])) (8 * (L'.length / 8)) 8 (L'.length % 8) (Nat.mod_lt _ (by omega)) (by rw [Nat.div_add_mod]; exact gd_ge L' _ (Nat.le_refl _)) (by rw [Nat.div_add_mod]; exact gd_snoc L' true) (fun i hi hne => gd_snoc_ne L' true _ (by omega)), ← HT.out, ← HX2.out] at hq
            exact hq
          obtain ⟨q, hq⟩ : ∃ q, q = T / 8 := ⟨_, rfl⟩
          obtain ⟨r, hr⟩ : ∃ r, r = T % 8 := ⟨_, rfl⟩
          rw [← hq] at kg2 kgf hTm
          rw [← hr] at hor hxb
          have hwq : IntKind.i64.wrap ((T : Int) / 8) = (q : Int) := by rw [IntWalk.i64_in _ (by omega)]; omega
          have hwr : (T : Int).tmod 8 = (r : Int) := by rw [Int.tmod_eq_emod_of_nonneg (by omega)]; omega
          have hr8 : (r : Int) ≤ 8 := by omega
          have hqm : (q : Int) < m := by omega
          have HQ := Lib.hid hq
          have HR := Lib.hid hr
          clear hq hr
          go_still_tail 18, (by kernel_rfl)
          change wpList _ _ _ _ _ w2.drew
          generalize hw3 : w2.drew = w3
          have h4 : St S W w3 (ownT 5 1 (.slice (some ⟨g, 0, none⟩) m cap) m (bytesV l2) :: blkT b #[.slice (some ⟨g, 0, none⟩) m cap, .int .i64 T] 26 :: M) := by rw [← hw3]; exact h3.ext (Mut.refl _ _).drew
          have h5 := h4.stored q (bv (UInt8.ofNat (x + 2 ^ (7 - r))))
          rw [bytesV_set, bv_ofNat, Nat.mod_eq_of_lt hxb] at h5
          have kf3 := h4.own.free q
          have kg3 : w3.cell? ⟨g, q, none⟩ = some (.int .u8 x) := by rw [← hw3]; exact kg2
          have hgb := h4.ne
          have hbg : b ≠ g := fun e => hgb e.symm
          have hb4 := h4.swap.blk
          have j1 : w3.cell? ⟨b, 1, none⟩ = some (.int .i64 T) := cell_of_heap hb4 1
          have jf1 := free_of_heap hb4 1
          clear hb4
          go_wp2_with fail
          have HFL : l2.set q (UInt8.ofNat (x + 2 ^ (7 - r))) = cbytes ((T + 1 + 7) / 8) (L' ++ [true]) := by
            rw [show (T + 1 + 7) / 8 = T / 8 + 1 by omega, cbytes_snoc_true _ _ (by rw [← HT.out]; omega), ← HT.out, HQ.out, HX2.out, HR.out, HL2.out.1]
          have HFM : m = (T + 1 + 7) / 8 := by rw [HL2.out.2]; omega
          have HF := Lib.hid (show St S W _ (bwT b (L ++ (bitsOf n c).take (k + 1)) :: M) from ((h5.swap.set 1 (.int .i64 ((T : Int) + 1))).swap.bwClose (L := L ++ (bitsOf n c).take (k + 1)) (l := (l2.set q (UInt8.ofNat (x+2^(7-r))))) (T := T + 1)
            (by rw [HN.out, pack_eq, List.length_append, ← HT.out]; exact HFL) (by rw [HN.out, pack_len, List.length_append, ← HT.out]; exact HFM) (by rw [HN.out, List.length_append, ← HT.out]; rfl)))
          go_roundw
          case rel => first | exact ⟨k + 1, by omega, by go_num, HF.out⟩ | ((repeat apply Exists.intro); exact ⟨⟨k + 1, by omega, by go_num, HF.out⟩, rfl⟩)
          case measure => simp [intOf]; omega
    · obtain rfl : k = c := by omega
      have hge : ((k : Int) - 1 - k) = -1 := by omega
      have HF := Lib.hid (show L ++ (bitsOf n k).take k = L ++ bitsOf n k by rw [List.take_of_length_le (by rw [bitsOf_len]; exact Nat.le_refl _)])
      rw [HF.out] at h
      go_wp2_with fail
      go_ret
      exact ⟨rfl, h⟩
end Go.Proofs.Ythbnokaclolknaa
