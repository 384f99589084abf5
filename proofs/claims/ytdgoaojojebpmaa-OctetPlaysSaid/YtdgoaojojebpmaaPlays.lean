/- OctetPlays: the walk. -/
import Derived.Test.YtdgoaojojebpmaaFours
import Derived.Test.YtdgoaojojebpmaaArg
namespace Go.Proofs.Ytdgoaojojebpmaa
open Go.RowKit
set_option linter.unusedVariables false
set_option linter.unusedSimpArgs false

def repOp (o : Int × Int) (cs : List Value) : Prop := cs = [.int .i64 o.1, .int .i64 o.2] ∧ (-9223372036854775808 ≤ o.1 ∧ o.1 < 9223372036854775808) ∧ (-9223372036854775808 ≤ o.2 ∧ o.2 < 9223372036854775808)
theorem repOp_of {H : Type} {enc : TypeId × Value → H} {w : World} {base : Nat} {spare : Nat → Bool} {held : Bool} (n : Nat) (cs : List Value) (y : DataW H × List MemPlace) (_ : cs.length = 2) (h : DataW.trod enc Try.prog w base spare held n 29 cs = some y) : ∃ a, repOp a cs := by
  obtain ⟨hl, hf⟩ := cells_of_struct Try.underlying29 (by kernel_rfl) (by kernel_rfl) h
  obtain ⟨v0, y0, n0, e0, t0⟩ := hf 0 _ rfl
  obtain ⟨v1, y1, n1, e1, t1⟩ := hf 1 _ rfl
  obtain ⟨a0, h0, _, k0⟩ := DataW.trod_int Try.underlying3 t0
  obtain ⟨a1, h1, _, k1⟩ := DataW.trod_int Try.underlying3 t1
  simp at h0 h1
  subst h0 h1
  match cs, hl with
  | [c0, c1], _ =>
    simp at e0 e1
    subst e0 e1
    exact ⟨(a0, a1), rfl, wf_i64 k0, wf_i64 k1⟩
theorem ArgRow.getOp {w : World} {A : Option Addr} {len : Nat} {l : List (Int × Int)} (h : ArgRow repOp 2 w A len l) (i : Nat) (hi : i < len) : ∃ b off k n, A = some ⟨b, off, none⟩ ∧ l[i]? = some (k, n) ∧ w.cell? ⟨b, off + i * 2, none⟩ = some (.int .i64 k) ∧ w.cell? ⟨b, off + i * 2 + 1, none⟩ = some (.int .i64 n) ∧ (-9223372036854775808 ≤ k ∧ k < 9223372036854775808) ∧ (-9223372036854775808 ≤ n ∧ n < 9223372036854775808) := by
  rcases h.2 with h2 | ⟨b, off, hA, hc⟩
  · omega
  · have hl : i < l.length := by rw [h.1]; exact hi
    obtain ⟨cs, ⟨rfl, hB, hC⟩, h2, h3⟩ := hc i l[i] (List.getElem?_eq_getElem hl)
    exact ⟨b, off, _, _, hA, List.getElem?_eq_getElem hl, by simpa using h3 0 _ rfl, by simpa [Nat.add_assoc] using h3 1 _ rfl, hB, hC⟩

theorem rd_one (s : ByteArray) (a : Int) : (#[Value.string s, .int .i64 a]).all (·.oneCell') = true := by simp [Value.oneCell']
theorem ext1 (s : ByteArray) (a : Nat) (h : a < s.size) : s.extract a (a + 1) = ⟨#[s[a]]⟩ := by
  apply Go.WideShapes.bytes_inj
  rw [ext_data, show a + 1 - a = 1 by omega]
  apply List.ext_getElem?
  intro i
  rw [List.getElem?_take, List.getElem?_drop]
  match i with
  | 0 =>
    have : s.data.toList[a]? = some s[a] := by rw [List.getElem?_eq_getElem (by rw [data_len]; exact h)]; rfl
    simp [this]
  | i + 1 => simp
theorem ext4 (s : ByteArray) (a : Nat) (h : a + 4 ≤ s.size) : s.extract a (a + 4) = ⟨#[s[a], s[a + 1], s[a + 2], s[a + 3]]⟩ := by
  apply Go.WideShapes.bytes_inj
  rw [ext_data, show a + 4 - a = 4 by omega]
  have e : ∀ i (hi : a + i < s.size), s.data.toList[a + i]? = some s[a + i] := fun i hi => by
    rw [List.getElem?_eq_getElem (by rw [data_len]; exact hi)]; rfl
  apply List.ext_getElem?
  intro i
  rw [List.getElem?_take, List.getElem?_drop]
  match i with
  | 0 => rw [e 0 (by omega)]; rfl
  | 1 => rw [e 1 (by omega)]; rfl
  | 2 => rw [e 2 (by omega)]; rfl
  | 3 => rw [e 3 (by omega)]; rfl
  | i + 4 => rw [if_neg (by omega)]; rfl
set_option maxRecDepth 20000 in
set_option maxHeartbeats 8000000 in
theorem octetPlays_walk (s : ByteArray) (A : Option Addr) (ca : Nat) (os : List (Int × Int)) (hs0 : s.size ≤ 140737488351232) (w : World) (ra : ArgRow repOp 2 w A os.length os) (hpa : os.length ≤ 9223372036854775807) :
    Calls Try.prog 3 #[.string s, .slice A os.length ca] w fun e w' => e = .returned (.bool true) ∧ Ext w w' := by
  have hs : s.size ≤ maxLen := by unfold maxLen; omega
  by_cases h1 : s.size ≤ 2000
  · by_cases h2 : os.length ≤ 300
    · obtain ⟨p, hp⟩ : ∃ p, p = os.length := ⟨_, rfl⟩
      rw [← hp] at ra h2 hpa ⊢
      have HP := Lib.hid hp
      clear hp
      go_enter Try.func3, Try.ntmps3
      go_wp2_with (first
        | (go_at_call 8; refine (awake_any _).mono ?_; rintro e w1 ⟨rfl, x1⟩)
        | (go_at_call 9; refine (new_st ((St.start noB w).ext x1) s).mono ?_; rintro e w2 ⟨rfl, h2⟩))
      have h := h2.alloc #[.string s, .int .i64 (0 : Nat)] 27
      have h := h.swap
      obtain ⟨rb, hrb⟩ : ∃ b, b = w1.heap.size := ⟨_, rfl⟩
      obtain ⟨pw, hpw⟩ : ∃ b, b = w2.heap.size := ⟨_, rfl⟩
      rw [← hrb, ← hpw] at h
      rw [← hrb, ← hpw]
      have hpwl : pw < (w2.alloc (.cells #[.string s, .int .i64 (0 : Nat)] 27)).heap.size := by rw [hpw]; simp
      clear hrb hpw x1 h2
      go_loopw [34] (fun vi wr => ∃ (i a : Nat), i ≤ p ∧ a ≤ s.size ∧ vi = .int .i64 i ∧ St noB w wr [rdT rb s a, blkT pw #[.string s, .int .i64 a] 27]) (fun vi _ => p - (intOf vi).toNat)
      case atStart => exact ⟨0, 0, by omega, by omega, rfl, h⟩
      case round =>
        clear h hpwl
        obtain ⟨i, a, hi, ha, rfl, h⟩ := hrel
        by_cases hlt : i < p
        · obtain ⟨b, off, k, n, rfl, hg, hk, hn, bk, bn⟩ := (ra.ext h.ends).getOp i hlt
          obtain ⟨c, hc⟩ : ∃ c, wrap64 ((IntKind.u64.wrap k).tmod 3) = c := ⟨_, rfl⟩
          obtain ⟨ob, hob⟩ : ∃ b, b = wr.heap.size := ⟨_, rfl⟩
          have h0 := (h.alloc #[.int .i64 k, .int .i64 n] 29).pull 1
          rw [← hob] at h0
          have h0 : St noB w (wr.alloc (.cells #[.int .i64 k, .int .i64 n] 29)) [rdT rb s (a), blkT ob #[.int .i64 k, .int .i64 n] 29, blkT pw #[.string s, .int .i64 (a : Nat)] 27] := h0
          have HOB := Lib.hid hob
          have hobt : wr.heap.size = ob := hob.symm
          clear hob
          by_cases hc0 : c = 0
          · have hd := (show (c == 0) = true by simp [hc0])
            by_cases hlast : a < s.size
            · have CV : ∀ x : World, (convert 36 9 (.slice (some ⟨x.heap.size, 0, none⟩) 1 1)).run Try.prog (x.alloc (.cells #[.int .u8 (s[a].toNat : Nat)] 5)) = .ok (.string ⟨#[s[a]]⟩) (x.alloc (.cells #[.int .u8 (s[a].toNat : Nat)] 5)) := fun x => run_string_of_row _ _ _ Try.underlying36 Try.underlying5 x.heap.size 1 1 [s[a]] rfl (cells_of_row (l := [s[a]]) (heap_alloc_self x _)) _ Try.underlying9
              obtain ⟨a2, ha2⟩ : ∃ a2, a2 = a + 1 := ⟨_, rfl⟩
              have hle : a2 ≤ s.size := by omega
              have hb := byte_st h0 hs hlast
              have ht := fun x : World => rtake_ok s a 1 hs (by omega) x
              simp only [ext1 s a hlast] at ht
              rw [← ha2] at hb
              simp only [← ha2] at ht
              have HB := Lib.hid hb
              have HT := Lib.hid ht
              clear hb ht ha2
              have eL : (s.size : Int) - (a2 : Int) = ((s.size - a2 : Nat) : Int) := by omega
              go_wp2_with (first
                | (go_at_call 10; refine HB.out.mono ?_; rintro e w3 ⟨rfl, h3⟩; have hp := (h3.pull 2).blk; have c0 : w3.cell? ⟨pw, 0, none⟩ = some (.string s) := cell_of_heap hp 0; have c1 : w3.cell? ⟨pw, 1, none⟩ = some (.int .i64 (a : Nat)) := cell_of_heap hp 1; have ho := (h3.pull 1).blk; have o1 : w3.cell? ⟨ob, 1, none⟩ = some (.int .i64 n) := cell_of_heap ho 1; clear hp ho)
                | (go_at_call 11; refine (HT.out _).mono ?_; rintro e w4 ⟨rfl, x4⟩; clear c0 c1 o1; have h4 := h3.ext x4)
                | (refine wpList_store_row rfl _ _ _ rfl pw #[.string s, .int .i64 (a2 : Nat)] rfl rfl 27 #[.string s, .int .i64 (a : Nat)] (h4.pull 2).blk (by kernel_rfl) rfl (rd_one _ _) ?_; have h6 := ((h4.pull 2).row #[.string s, .int .i64 (a2 : Nat)]).pull 1; generalize w4.setRow pw #[.string s, .int .i64 (a2 : Nat)] = w6 at h6 ⊢; have g1 : w6.cell? ⟨pw, 1, none⟩ = some (.int .i64 (a2 : Nat)) := cell_of_heap h6.swap.blk 1; have gl : pw < w6.heap.size := lt_of_block h6.swap.blk))
              have h7 := h6.ext ((Mut.refl noB w6).alloc (.cells #[.int .u8 (s[a].toNat : Nat)] 5))
              generalize w6.alloc (.cells #[.int .u8 (s[a].toNat : Nat)] 5) = w7 at h7 ⊢
              clear g1 gl
              have g1 : w7.cell? ⟨pw, 1, none⟩ = some (.int .i64 (a2 : Nat)) := cell_of_heap h7.swap.blk 1
              have gl : pw < w7.heap.size := lt_of_block h7.swap.blk
              try simp only [Act.put, List.setIfInBounds_toArray, List.set_cons_succ, List.set_cons_zero]
              (refine wp_region_after (by kernel_rfl) (by kernel_rfl) ?_; (repeat (first | go_big_quiet_skip | (go_big_quiet_want; first | (fail; simp only [Act.put, List.setIfInBounds_toArray, List.set_cons_succ, List.set_cons_zero]; go_big_quiet_on) | (go_big_quiet_op; first | go_big_quiet_on | (apply Exists.intro; refine ⟨fun _ => ?_, ?_⟩; (· (first | (go_at_call 15; exact Calls.after_same (at_any (Rd.ext h7.rd (After.ext _)))) | (go_at_call 16; exact Calls.after (left_any (Rd.ext h7.rd (After.ext _)) hle hs)))); go_big_quiet_on))))); refine wpQuiet_nil ?_; rintro _ ⟨y, rfl⟩)
              have h8 := h7.ext y.ext
              go_wp2
              go_roundw
              case rel => first | exact ⟨i + 1, a2, by omega, hle, by go_num, (h8.pull 2).drop⟩ | ((repeat apply Exists.intro); exact ⟨⟨i + 1, a2, by omega, hle, by go_num, (h8.pull 2).drop⟩, rfl⟩)
              case measure => simp [intOf]; omega
            · have hla : a = s.size := by omega
              obtain ⟨a2, ha2⟩ : ∃ a2, a2 = a := ⟨_, rfl⟩
              have hle : a2 ≤ s.size := by omega
              have hb := byte_end_st h0 hs hla
              have ht := fun x : World => rtake_end s a 1 ha hs (by omega) (by omega) x
              subst ha2
              clear hla
              have HB := Lib.hid hb
              have HT := Lib.hid ht
              clear hb ht
              have eL : (s.size : Int) - (a2 : Int) = ((s.size - a2 : Nat) : Int) := by omega
              go_wp2_with (first
                | (go_at_call 10; refine HB.out.mono ?_; rintro e w3 ⟨rfl, h3⟩; have hp := (h3.pull 2).blk; have c0 : w3.cell? ⟨pw, 0, none⟩ = some (.string s) := cell_of_heap hp 0; have c1 : w3.cell? ⟨pw, 1, none⟩ = some (.int .i64 (a2 : Nat)) := cell_of_heap hp 1; have ho := (h3.pull 1).blk; have o1 : w3.cell? ⟨ob, 1, none⟩ = some (.int .i64 n) := cell_of_heap ho 1; clear hp ho)
                | (go_at_call 11; refine (HT.out _).mono ?_; rintro e w4 ⟨rfl, x4⟩; clear c0 c1 o1; have h4 := h3.ext x4)
                | (refine wpList_store_row rfl _ _ _ rfl pw #[.string s, .int .i64 (a2 : Nat)] rfl rfl 27 #[.string s, .int .i64 (a2 : Nat)] (h4.pull 2).blk (by kernel_rfl) rfl (rd_one _ _) ?_; have h6 := ((h4.pull 2).row #[.string s, .int .i64 (a2 : Nat)]).pull 1; generalize w4.setRow pw #[.string s, .int .i64 (a2 : Nat)] = w6 at h6 ⊢; have g1 : w6.cell? ⟨pw, 1, none⟩ = some (.int .i64 (a2 : Nat)) := cell_of_heap h6.swap.blk 1; have gl : pw < w6.heap.size := lt_of_block h6.swap.blk))
              obtain ⟨w7, hw7⟩ : ∃ x, x = w6 := ⟨_, rfl⟩
              have h7 := h6
              rw [← hw7] at h7 ⊢
              clear hw7
              clear g1 gl
              have g1 : w7.cell? ⟨pw, 1, none⟩ = some (.int .i64 (a2 : Nat)) := cell_of_heap h7.swap.blk 1
              have gl : pw < w7.heap.size := lt_of_block h7.swap.blk
              try simp only [Act.put, List.setIfInBounds_toArray, List.set_cons_succ, List.set_cons_zero]
              (refine wp_region_after (by kernel_rfl) (by kernel_rfl) ?_; (repeat (first | go_big_quiet_skip | (go_big_quiet_want; first | (fail; simp only [Act.put, List.setIfInBounds_toArray, List.set_cons_succ, List.set_cons_zero]; go_big_quiet_on) | (go_big_quiet_op; first | go_big_quiet_on | (apply Exists.intro; refine ⟨fun _ => ?_, ?_⟩; (· (first | (go_at_call 15; exact Calls.after_same (at_any (Rd.ext h7.rd (After.ext _)))) | (go_at_call 16; exact Calls.after (left_any (Rd.ext h7.rd (After.ext _)) hle hs)))); go_big_quiet_on))))); refine wpQuiet_nil ?_; rintro _ ⟨y, rfl⟩)
              have h8 := h7.ext y.ext
              go_wp2
              go_roundw
              case rel => first | exact ⟨i + 1, a2, by omega, hle, by go_num, (h8.pull 2).drop⟩ | ((repeat apply Exists.intro); exact ⟨⟨i + 1, a2, by omega, hle, by go_num, (h8.pull 2).drop⟩, rfl⟩)
              case measure => simp [intOf]; omega
          · have hd := (show (c == 0) = false by simp [hc0])
            by_cases hc1 : c = 1
            · have hd1 := (show (c == 1) = true by simp [hc1])
              by_cases hneg : n < 0
              · skip
                obtain ⟨a2, ha2⟩ : ∃ a2, a2 = a := ⟨_, rfl⟩
                have hle : a2 ≤ s.size := by omega
                have hb := take_neg_st h0 n hneg
                have ht := fun x : World => rtake_neg s a n hneg x
                subst ha2
                have HB := Lib.hid hb
                have HT := Lib.hid ht
                clear hb ht
                have eL : (s.size : Int) - (a2 : Int) = ((s.size - a2 : Nat) : Int) := by omega
                go_wp2_with (first
                  | (go_at_call 12; refine HB.out.mono ?_; rintro e w3 ⟨rfl, h3⟩; have hp := (h3.pull 2).blk; have c0 : w3.cell? ⟨pw, 0, none⟩ = some (.string s) := cell_of_heap hp 0; have c1 : w3.cell? ⟨pw, 1, none⟩ = some (.int .i64 (a2 : Nat)) := cell_of_heap hp 1; have ho := (h3.pull 1).blk; have o1 : w3.cell? ⟨ob, 1, none⟩ = some (.int .i64 n) := cell_of_heap ho 1; clear hp ho)
                  | (go_at_call 11; refine (HT.out _).mono ?_; rintro e w4 ⟨rfl, x4⟩; clear c0 c1 o1; have h4 := h3.ext x4)
                  | (refine wpList_store_row rfl _ _ _ rfl pw #[.string s, .int .i64 (a2 : Nat)] rfl rfl 27 #[.string s, .int .i64 (a2 : Nat)] (h4.pull 2).blk (by kernel_rfl) rfl (rd_one _ _) ?_; have h6 := ((h4.pull 2).row #[.string s, .int .i64 (a2 : Nat)]).pull 1; generalize w4.setRow pw #[.string s, .int .i64 (a2 : Nat)] = w6 at h6 ⊢; have g1 : w6.cell? ⟨pw, 1, none⟩ = some (.int .i64 (a2 : Nat)) := cell_of_heap h6.swap.blk 1; have gl : pw < w6.heap.size := lt_of_block h6.swap.blk))
                obtain ⟨w7, hw7⟩ : ∃ x, x = w6 := ⟨_, rfl⟩
                have h7 := h6
                rw [← hw7] at h7 ⊢
                clear hw7
                clear g1 gl
                have g1 : w7.cell? ⟨pw, 1, none⟩ = some (.int .i64 (a2 : Nat)) := cell_of_heap h7.swap.blk 1
                have gl : pw < w7.heap.size := lt_of_block h7.swap.blk
                try simp only [Act.put, List.setIfInBounds_toArray, List.set_cons_succ, List.set_cons_zero]
                (refine wp_region_after (by kernel_rfl) (by kernel_rfl) ?_; (repeat (first | go_big_quiet_skip | (go_big_quiet_want; first | (fail; simp only [Act.put, List.setIfInBounds_toArray, List.set_cons_succ, List.set_cons_zero]; go_big_quiet_on) | (go_big_quiet_op; first | go_big_quiet_on | (apply Exists.intro; refine ⟨fun _ => ?_, ?_⟩; (· (first | (go_at_call 15; exact Calls.after_same (at_any (Rd.ext h7.rd (After.ext _)))) | (go_at_call 16; exact Calls.after (left_any (Rd.ext h7.rd (After.ext _)) hle hs)))); go_big_quiet_on))))); refine wpQuiet_nil ?_; rintro _ ⟨y, rfl⟩)
                have h8 := h7.ext y.ext
                go_wp2
                go_roundw
                case rel => first | exact ⟨i + 1, a2, by omega, hle, by go_num, (h8.pull 2).drop⟩ | ((repeat apply Exists.intro); exact ⟨⟨i + 1, a2, by omega, hle, by go_num, (h8.pull 2).drop⟩, rfl⟩)
                case measure => simp [intOf]; omega
              · by_cases hfit : n ≤ (s.size : Int) - a
                · obtain ⟨m, hm⟩ : ∃ m : Nat, (m : Int) = n := ⟨n.toNat, by omega⟩
                  obtain ⟨a2, ha2⟩ : ∃ a2, a2 = a + m := ⟨_, rfl⟩
                  have hle : a2 ≤ s.size := by omega
                  have hb := take_st h0 hs m (by omega)
                  have ht := fun x : World => rtake_ok s a m hs (by omega) x
                  rw [hm] at hb
                  simp only [hm] at ht
                  clear hm
                  rw [← ha2] at hb
                  simp only [← ha2] at ht
                  have HB := Lib.hid hb
                  have HT := Lib.hid ht
                  clear hb ht ha2
                  have eL : (s.size : Int) - (a2 : Int) = ((s.size - a2 : Nat) : Int) := by omega
                  go_wp2_with (first
                    | (go_at_call 12; refine HB.out.mono ?_; rintro e w3 ⟨rfl, h3⟩; have hp := (h3.pull 2).blk; have c0 : w3.cell? ⟨pw, 0, none⟩ = some (.string s) := cell_of_heap hp 0; have c1 : w3.cell? ⟨pw, 1, none⟩ = some (.int .i64 (a : Nat)) := cell_of_heap hp 1; have ho := (h3.pull 1).blk; have o1 : w3.cell? ⟨ob, 1, none⟩ = some (.int .i64 n) := cell_of_heap ho 1; clear hp ho)
                    | (go_at_call 11; refine (HT.out _).mono ?_; rintro e w4 ⟨rfl, x4⟩; clear c0 c1 o1; have h4 := h3.ext x4)
                    | (refine wpList_store_row rfl _ _ _ rfl pw #[.string s, .int .i64 (a2 : Nat)] rfl rfl 27 #[.string s, .int .i64 (a : Nat)] (h4.pull 2).blk (by kernel_rfl) rfl (rd_one _ _) ?_; have h6 := ((h4.pull 2).row #[.string s, .int .i64 (a2 : Nat)]).pull 1; generalize w4.setRow pw #[.string s, .int .i64 (a2 : Nat)] = w6 at h6 ⊢; have g1 : w6.cell? ⟨pw, 1, none⟩ = some (.int .i64 (a2 : Nat)) := cell_of_heap h6.swap.blk 1; have gl : pw < w6.heap.size := lt_of_block h6.swap.blk))
                  obtain ⟨w7, hw7⟩ : ∃ x, x = w6 := ⟨_, rfl⟩
                  have h7 := h6
                  rw [← hw7] at h7 ⊢
                  clear hw7
                  clear g1 gl
                  have g1 : w7.cell? ⟨pw, 1, none⟩ = some (.int .i64 (a2 : Nat)) := cell_of_heap h7.swap.blk 1
                  have gl : pw < w7.heap.size := lt_of_block h7.swap.blk
                  try simp only [Act.put, List.setIfInBounds_toArray, List.set_cons_succ, List.set_cons_zero]
                  (refine wp_region_after (by kernel_rfl) (by kernel_rfl) ?_; (repeat (first | go_big_quiet_skip | (go_big_quiet_want; first | (fail; simp only [Act.put, List.setIfInBounds_toArray, List.set_cons_succ, List.set_cons_zero]; go_big_quiet_on) | (go_big_quiet_op; first | go_big_quiet_on | (apply Exists.intro; refine ⟨fun _ => ?_, ?_⟩; (· (first | (go_at_call 15; exact Calls.after_same (at_any (Rd.ext h7.rd (After.ext _)))) | (go_at_call 16; exact Calls.after (left_any (Rd.ext h7.rd (After.ext _)) hle hs)))); go_big_quiet_on))))); refine wpQuiet_nil ?_; rintro _ ⟨y, rfl⟩)
                  have h8 := h7.ext y.ext
                  go_wp2
                  go_roundw
                  case rel => first | exact ⟨i + 1, a2, by omega, hle, by go_num, (h8.pull 2).drop⟩ | ((repeat apply Exists.intro); exact ⟨⟨i + 1, a2, by omega, hle, by go_num, (h8.pull 2).drop⟩, rfl⟩)
                  case measure => simp [intOf]; omega
                · skip
                  obtain ⟨a2, ha2⟩ : ∃ a2, a2 = a := ⟨_, rfl⟩
                  have hle : a2 ≤ s.size := by omega
                  have hb := take_end_st h0 ha hs n (by omega) (by omega)
                  have ht := fun x : World => rtake_end s a n ha hs (by omega) (by omega) x
                  subst ha2
                  have HB := Lib.hid hb
                  have HT := Lib.hid ht
                  clear hb ht
                  have eL : (s.size : Int) - (a2 : Int) = ((s.size - a2 : Nat) : Int) := by omega
                  go_wp2_with (first
                    | (go_at_call 12; refine HB.out.mono ?_; rintro e w3 ⟨rfl, h3⟩; have hp := (h3.pull 2).blk; have c0 : w3.cell? ⟨pw, 0, none⟩ = some (.string s) := cell_of_heap hp 0; have c1 : w3.cell? ⟨pw, 1, none⟩ = some (.int .i64 (a2 : Nat)) := cell_of_heap hp 1; have ho := (h3.pull 1).blk; have o1 : w3.cell? ⟨ob, 1, none⟩ = some (.int .i64 n) := cell_of_heap ho 1; clear hp ho)
                    | (go_at_call 11; refine (HT.out _).mono ?_; rintro e w4 ⟨rfl, x4⟩; clear c0 c1 o1; have h4 := h3.ext x4)
                    | (refine wpList_store_row rfl _ _ _ rfl pw #[.string s, .int .i64 (a2 : Nat)] rfl rfl 27 #[.string s, .int .i64 (a2 : Nat)] (h4.pull 2).blk (by kernel_rfl) rfl (rd_one _ _) ?_; have h6 := ((h4.pull 2).row #[.string s, .int .i64 (a2 : Nat)]).pull 1; generalize w4.setRow pw #[.string s, .int .i64 (a2 : Nat)] = w6 at h6 ⊢; have g1 : w6.cell? ⟨pw, 1, none⟩ = some (.int .i64 (a2 : Nat)) := cell_of_heap h6.swap.blk 1; have gl : pw < w6.heap.size := lt_of_block h6.swap.blk))
                  obtain ⟨w7, hw7⟩ : ∃ x, x = w6 := ⟨_, rfl⟩
                  have h7 := h6
                  rw [← hw7] at h7 ⊢
                  clear hw7
                  clear g1 gl
                  have g1 : w7.cell? ⟨pw, 1, none⟩ = some (.int .i64 (a2 : Nat)) := cell_of_heap h7.swap.blk 1
                  have gl : pw < w7.heap.size := lt_of_block h7.swap.blk
                  try simp only [Act.put, List.setIfInBounds_toArray, List.set_cons_succ, List.set_cons_zero]
                  (refine wp_region_after (by kernel_rfl) (by kernel_rfl) ?_; (repeat (first | go_big_quiet_skip | (go_big_quiet_want; first | (fail; simp only [Act.put, List.setIfInBounds_toArray, List.set_cons_succ, List.set_cons_zero]; go_big_quiet_on) | (go_big_quiet_op; first | go_big_quiet_on | (apply Exists.intro; refine ⟨fun _ => ?_, ?_⟩; (· (first | (go_at_call 15; exact Calls.after_same (at_any (Rd.ext h7.rd (After.ext _)))) | (go_at_call 16; exact Calls.after (left_any (Rd.ext h7.rd (After.ext _)) hle hs)))); go_big_quiet_on))))); refine wpQuiet_nil ?_; rintro _ ⟨y, rfl⟩)
                  have h8 := h7.ext y.ext
                  go_wp2
                  go_roundw
                  case rel => first | exact ⟨i + 1, a2, by omega, hle, by go_num, (h8.pull 2).drop⟩ | ((repeat apply Exists.intro); exact ⟨⟨i + 1, a2, by omega, hle, by go_num, (h8.pull 2).drop⟩, rfl⟩)
                  case measure => simp [intOf]; omega
            · have hd1 := (show (c == 1) = false by simp [hc1])
              by_cases hfit : a + 4 ≤ s.size
              · have hr := fun x : World => rbytes_any (four s[a] s[a + 1] s[a + 2] s[a + 3]) (four_lt _ _ _ _) x
                simp only [le4_four] at hr
                have HR := Lib.hid hr
                clear hr
                obtain ⟨a2, ha2⟩ : ∃ a2, a2 = a + 4 := ⟨_, rfl⟩
                have hle : a2 ≤ s.size := by omega
                have hb := four_st h0 hs hfit
                have ht := fun x : World => rtake_ok s a 4 hs hfit x
                simp only [ext4 s a hfit] at ht
                rw [← ha2] at hb
                simp only [← ha2] at ht
                have HB := Lib.hid hb
                have HT := Lib.hid ht
                clear hb ht ha2
                have eL : (s.size : Int) - (a2 : Int) = ((s.size - a2 : Nat) : Int) := by omega
                go_wp2_with (first
                  | (go_at_call 13; refine HB.out.mono ?_; rintro e w3 ⟨rfl, h3⟩; have hp := (h3.pull 2).blk; have c0 : w3.cell? ⟨pw, 0, none⟩ = some (.string s) := cell_of_heap hp 0; have c1 : w3.cell? ⟨pw, 1, none⟩ = some (.int .i64 (a : Nat)) := cell_of_heap hp 1; have ho := (h3.pull 1).blk; have o1 : w3.cell? ⟨ob, 1, none⟩ = some (.int .i64 n) := cell_of_heap ho 1; clear hp ho)
                  | (go_at_call 11; refine (HT.out _).mono ?_; rintro e w4 ⟨rfl, x4⟩; clear c0 c1 o1; have h4 := h3.ext x4)
                  | (refine wpList_store_row rfl _ _ _ rfl pw #[.string s, .int .i64 (a2 : Nat)] rfl rfl 27 #[.string s, .int .i64 (a : Nat)] (h4.pull 2).blk (by kernel_rfl) rfl (rd_one _ _) ?_; have h6 := ((h4.pull 2).row #[.string s, .int .i64 (a2 : Nat)]).pull 1; generalize w4.setRow pw #[.string s, .int .i64 (a2 : Nat)] = w6 at h6 ⊢; have g1 : w6.cell? ⟨pw, 1, none⟩ = some (.int .i64 (a2 : Nat)) := cell_of_heap h6.swap.blk 1; have gl : pw < w6.heap.size := lt_of_block h6.swap.blk)
                  | (go_at_call 14; refine (HR.out _).mono ?_; rintro e w9 ⟨rfl, x9⟩; have h9 := h6.ext x9; clear h6; have h6 := h9; clear h9))
                obtain ⟨w7, hw7⟩ : ∃ x, x = w9 := ⟨_, rfl⟩
                have h7 := h6
                rw [← hw7] at h7 ⊢
                clear hw7
                clear g1 gl
                have g1 : w7.cell? ⟨pw, 1, none⟩ = some (.int .i64 (a2 : Nat)) := cell_of_heap h7.swap.blk 1
                have gl : pw < w7.heap.size := lt_of_block h7.swap.blk
                try simp only [Act.put, List.setIfInBounds_toArray, List.set_cons_succ, List.set_cons_zero]
                (refine wp_region_after (by kernel_rfl) (by kernel_rfl) ?_; (repeat (first | go_big_quiet_skip | (go_big_quiet_want; first | (fail; simp only [Act.put, List.setIfInBounds_toArray, List.set_cons_succ, List.set_cons_zero]; go_big_quiet_on) | (go_big_quiet_op; first | go_big_quiet_on | (apply Exists.intro; refine ⟨fun _ => ?_, ?_⟩; (· (first | (go_at_call 15; exact Calls.after_same (at_any (Rd.ext h7.rd (After.ext _)))) | (go_at_call 16; exact Calls.after (left_any (Rd.ext h7.rd (After.ext _)) hle hs)))); go_big_quiet_on))))); refine wpQuiet_nil ?_; rintro _ ⟨y, rfl⟩)
                have h8 := h7.ext y.ext
                go_wp2
                go_roundw
                case rel => first | exact ⟨i + 1, a2, by omega, hle, by go_num, (h8.pull 2).drop⟩ | ((repeat apply Exists.intro); exact ⟨⟨i + 1, a2, by omega, hle, by go_num, (h8.pull 2).drop⟩, rfl⟩)
                case measure => simp [intOf]; omega
              · skip
                obtain ⟨a2, ha2⟩ : ∃ a2, a2 = a := ⟨_, rfl⟩
                have hle : a2 ≤ s.size := by omega
                have hb := four_end_st h0 hs ha (by omega)
                have ht := fun x : World => rtake_end s a 4 ha hs (by omega) (by omega) x
                subst ha2
                have HB := Lib.hid hb
                have HT := Lib.hid ht
                clear hb ht
                have eL : (s.size : Int) - (a2 : Int) = ((s.size - a2 : Nat) : Int) := by omega
                go_wp2_with (first
                  | (go_at_call 13; refine HB.out.mono ?_; rintro e w3 ⟨rfl, h3⟩; have hp := (h3.pull 2).blk; have c0 : w3.cell? ⟨pw, 0, none⟩ = some (.string s) := cell_of_heap hp 0; have c1 : w3.cell? ⟨pw, 1, none⟩ = some (.int .i64 (a2 : Nat)) := cell_of_heap hp 1; have ho := (h3.pull 1).blk; have o1 : w3.cell? ⟨ob, 1, none⟩ = some (.int .i64 n) := cell_of_heap ho 1; clear hp ho)
                  | (go_at_call 11; refine (HT.out _).mono ?_; rintro e w4 ⟨rfl, x4⟩; clear c0 c1 o1; have h4 := h3.ext x4)
                  | (refine wpList_store_row rfl _ _ _ rfl pw #[.string s, .int .i64 (a2 : Nat)] rfl rfl 27 #[.string s, .int .i64 (a2 : Nat)] (h4.pull 2).blk (by kernel_rfl) rfl (rd_one _ _) ?_; have h6 := ((h4.pull 2).row #[.string s, .int .i64 (a2 : Nat)]).pull 1; generalize w4.setRow pw #[.string s, .int .i64 (a2 : Nat)] = w6 at h6 ⊢; have g1 : w6.cell? ⟨pw, 1, none⟩ = some (.int .i64 (a2 : Nat)) := cell_of_heap h6.swap.blk 1; have gl : pw < w6.heap.size := lt_of_block h6.swap.blk))
                obtain ⟨w7, hw7⟩ : ∃ x, x = w6 := ⟨_, rfl⟩
                have h7 := h6
                rw [← hw7] at h7 ⊢
                clear hw7
                clear g1 gl
                have g1 : w7.cell? ⟨pw, 1, none⟩ = some (.int .i64 (a2 : Nat)) := cell_of_heap h7.swap.blk 1
                have gl : pw < w7.heap.size := lt_of_block h7.swap.blk
                try simp only [Act.put, List.setIfInBounds_toArray, List.set_cons_succ, List.set_cons_zero]
                (refine wp_region_after (by kernel_rfl) (by kernel_rfl) ?_; (repeat (first | go_big_quiet_skip | (go_big_quiet_want; first | (fail; simp only [Act.put, List.setIfInBounds_toArray, List.set_cons_succ, List.set_cons_zero]; go_big_quiet_on) | (go_big_quiet_op; first | go_big_quiet_on | (apply Exists.intro; refine ⟨fun _ => ?_, ?_⟩; (· (first | (go_at_call 15; exact Calls.after_same (at_any (Rd.ext h7.rd (After.ext _)))) | (go_at_call 16; exact Calls.after (left_any (Rd.ext h7.rd (After.ext _)) hle hs)))); go_big_quiet_on))))); refine wpQuiet_nil ?_; rintro _ ⟨y, rfl⟩)
                have h8 := h7.ext y.ext
                go_wp2
                go_roundw
                case rel => first | exact ⟨i + 1, a2, by omega, hle, by go_num, (h8.pull 2).drop⟩ | ((repeat apply Exists.intro); exact ⟨⟨i + 1, a2, by omega, hle, by go_num, (h8.pull 2).drop⟩, rfl⟩)
                case measure => simp [intOf]; omega
        · obtain rfl : i = p := by omega
          go_wp2
          go_ret
          exact ⟨rfl, h.ends⟩
    · go_enter Try.func3, Try.ntmps3
      go_wp2_with (go_at_call 8; refine (awake_any _).mono ?_; rintro e w1 ⟨rfl, hx⟩)
      go_ret
      refine ⟨rfl, ?_⟩
      (repeat (first | exact Mut.refl _ _ | assumption | apply Mut.alloc | apply Mut.drew | refine Mut.trans ?_ (After.ext _) | refine Mut.trans ?_ (by assumption)))
  · go_enter Try.func3, Try.ntmps3
    go_wp2_with (go_at_call 8; refine (awake_any _).mono ?_; rintro e w1 ⟨rfl, hx⟩)
    go_ret
    refine ⟨rfl, ?_⟩
    (repeat (first | exact Mut.refl _ _ | assumption | apply Mut.alloc | apply Mut.drew | refine Mut.trans ?_ (After.ext _) | refine Mut.trans ?_ (by assumption)))
end Go.Proofs.Ytdgoaojojebpmaa
