/- Layer 7: the lengths that come next. -/
import Derived.Test.YtclhmlgbhlmekaaHPack
namespace Go.Proofs.Ytclhmlgbhlmekaa
open Go.RowKit
set_option linter.unusedVariables false
set_option linter.unusedSimpArgs false
section
variable {S : Nat → Prop} {W w w' : World}
theorem Things.frame {fp rest : Nat → Prop} {M : List Thing} (hM : Things S W w' M rest) (hd : ∀ k, fp k ∨ w.heap.size ≤ k → ¬ rest k) (hs : ∀ k, fp k ∨ w.heap.size ≤ k → S k ∨ W.heap.size ≤ k) :
    ∀ {L : List Thing} {all : Nat → Prop}, Things fp w w' L all → ∃ all', Things S W w' (L ++ M) all' ∧ ∀ k, all' k ↔ all k ∨ rest k
  | [], all, h => ⟨rest, hM, fun k => ⟨.inr, fun e => e.resolve_left (h k)⟩⟩
  | t :: L, all, ⟨f1, r1, h1, h2, h3, h4, h5⟩ => by
    obtain ⟨a2, g1, g2⟩ := Things.frame hM hd hs h2
    refine ⟨fun k => f1 k ∨ a2 k, ⟨f1, a2, h1, g1, fun k hk ha => ?_, fun k => Iff.rfl, fun k hk => hs k (h5 k hk)⟩, fun k => ?_⟩
    · rcases (g2 k).1 ha with h | h
      · exact h3 k hk h
      · exact hd k (h5 k hk) h
    · show f1 k ∨ a2 k ↔ _
      rw [g2, h4, or_assoc]
/-- what a call does to one thing, beside others -/
theorem St.frame {t : Thing} {L M : List Thing} (h : St S W w (t :: M)) (h2 : ∀ fp, t.holds w fp → St fp w w' L) : St S W w' (L ++ M) := by
  obtain ⟨hm, all, fp, rest, h1, hM, h3, h4, h5⟩ := h
  obtain ⟨g1, a2, g2⟩ := h2 fp h1
  have hsz := hm.size
  have hlt := hM.lt
  have hM2 : Things S W w' M rest := hM.keep g1 (fun k hk hf => h3 k hf hk)
  obtain ⟨a3, g3, _⟩ := Things.frame (w := w) (fp := fp) hM2 (fun k hk hr => by
    rcases hk with h | h
    · exact h3 k h hr
    · have := hlt k hr; omega) (fun k hk => by
    rcases hk with h | h
    · exact h5 k h
    · right; omega) g2
  exact ⟨hm.trans' g1 (fun i hi hf => (h5 i hf).resolve_right (by omega)), a3, g3⟩
end
/-- are these lengths right? -/
def lensOK (er : Nat) (l : List Nat) : Bool := decide (er = 0) && decide (l.length = 256) && l.all fun n => decide (n ≤ 56)
def tabL (l : List Nat) (k : Nat) : Nat → Nat := fun i => if i < k then l.getD i 0 % 256 else 0
theorem tabL_succ (l : List Nat) (k : Nat) : tabL l (k + 1) = upd (tabL l k) k (l.getD k 0 % 256) := by
  funext i
  unfold upd tabL
  by_cases e : i = k
  · subst e; simp
  · rw [if_neg e]
    by_cases h : i < k
    · rw [if_pos h, if_pos (by omega)]
    · rw [if_neg h, if_neg (by omega)]
theorem tabL_lt (l : List Nat) (k : Nat) : ∀ i, tabL l k i < 256 := fun i => by
  unfold tabL
  split
  · exact Nat.mod_lt _ (by omega)
  · omega
set_option maxRecDepth 20000 in
set_option maxHeartbeats 2000000 in
theorem lengths_st {S : Nat → Prop} {W w : World} {b a : Nat} {s : ByteArray} (h : St S W w [rdT b s a]) (hs : s.size ≤ 1000000) (ha : a ≤ s.size) (L : List Nat) (er a2 : Nat) (hR : rrl s.data.toList a 256 = (L, er, a2)) :
    Calls Try.prog 49 #[.pointer (some ⟨b, 0, none⟩)] w fun e w' => ∃ t : Nat → Nat, (∀ i, t i < 256) ∧ e = .returned (.tuple #[.agg (tabV .u8 t), .bool (lensOK er L)]) ∧ (lensOK er L = true → t = tabL L 256) ∧ St S W w' [rdT b s a2] := by
  have h1 := (h.alloc (tabV .u8 (fun _ => 0)) 27).swap
  have hrd : (rdT b s a).holds (w.alloc (.cells (tabV .u8 (fun _ => 0)) 27)) (fun k => k = b) := ⟨h1.rd, rfl⟩
  have HRR := Lib.hid (runread_st (St.one hrd) hs ha 256 (by omega))
  rw [hR] at HRR
  have hz := zero8
  clear hrd hR
  go_enter Try.func49, Try.ntmps49
  go_wp2_with fail
  refine HRR.out.mono ?_
  rintro _ w2 ⟨v, rfl, h2⟩
  have h3 := St.frame h1 (L := [nlT v L, rdT b s a2]) (fun fp hfp => by rw [hfp.2]; exact h2)
  change St S W w2 [nlT v L, rdT b s a2, blkT w.heap.size (tabV .u8 (fun _ => 0)) 27] at h3
  generalize w.heap.size = tb at h3 ⊢
  obtain ⟨A, c, rfl⟩ := h3.own.form
  clear h1 h2 h HRR hz
  change St S W w2 [ownT 24 1 (.slice A L.length c) L.length (numsV L), rdT b s a2, blkT tb (tabV .u8 (fun _ => 0)) 27] at h3
  obtain ⟨m, hm⟩ : ∃ m, L.length = m := ⟨_, rfl⟩
  rw [hm] at h3 ⊢
  obtain ⟨zt, hzt⟩ : ∃ zt : Nat → Nat, zt = fun _ => 0 := ⟨_, rfl⟩
  rw [← hzt] at h3
  have HZ := Lib.hid hzt
  clear hzt
  by_cases he : er = 0
  · subst he
    by_cases hl : m = 256
    · subst hl
      go_wp2_with fail
      have HG0 : Hid (∀ j, j < 0 → L.getD j 0 ≤ 56) := Lib.hid (fun j hj => by omega)
      have h4 : St S W w2 [ownT 24 1 (.slice A 256 c) 256 (numsV L), rdT b s a2, blkT tb (tabV .u8 (tabL L 0)) 27] := by
        have e : tabL L 0 = zt := by rw [HZ.out]; funext i; unfold tabL; rw [if_neg (by omega)]
        rw [e]; exact h3
      have HLn := Lib.hid hm
      clear hm h3
      go_loopw [23] (fun v23 wr => ∃ k : Nat, v23 = .int .i64 k ∧ k ≤ 256 ∧ Hid (∀ j, j < k → L.getD j 0 ≤ 56) ∧ St S W wr [ownT 24 1 (.slice A 256 c) 256 (numsV L), rdT b s a2, blkT tb (tabV .u8 (tabL L k)) 27]) (fun v23 _ => 256 - (intOf v23).toNat)
      case atStart => exact ⟨0, rfl, by omega, HG0, h4⟩
      case round =>
        clear h4 HG0
        obtain ⟨k, rfl, hk, HG, h⟩ := hrel
        by_cases hlt : k < 256
        · have hl1 : (k : Int) < 256 := by omega
          obtain ⟨g, rfl, c0⟩ := Own.numAt h.own HLn.out k hlt
          by_cases hg : 56 < L.getD k 0
          · have hg2 : (56 : Int) < (L.getD k 0 : Int) := by omega
            have HOK : Hid (lensOK 0 L = false) := Lib.hid (by
              unfold lensOK
              rw [Bool.and_eq_false_iff]
              right
              rw [List.all_eq_false]
              refine ⟨L.getD k 0, ?_, by simpa using hg⟩
              rw [List.getD_eq_getElem?_getD, List.getElem?_eq_getElem (by rw [HLn.out]; exact hlt)]; exact List.getElem_mem _)
            have hlt8 := tabL_lt L k
            generalize tabL L k = ct at h hlt8
            have hb := Lib.hid (h.pull 2).blk
            clear HG hg
            generalize L.getD k 0 = x at *
            go_wp2_with (first
              | (refine wpList_load_row rfl _ _ rfl tb rfl 27 (tabV .u8 ct) (0, 0) (.array 256 5) hb.out Try.underlying27 rfl (size8 _) ?_)
              | (refine wpList_store_row rfl _ _ _ rfl tb (tabV .u8 ct) rfl rfl 27 (tabV .u8 ct) hb.out (size8 _) rfl (tabV_one _ _) ?_; rw [setRow_self _ _ _ _ _ hb.out]))
            refine bodyPost_ret_by (results_pairH rfl _ _ tb 27 _ (0, 0) (.array 256 5) rfl hb.out Try.underlying27 rfl (size8 _)) rfl ?_
            rw [HOK.out]
            exact ⟨ct, hlt8, rfl, (fun e => by cases e), h.drop.swap.drop⟩
          · have hg2 : ¬ (56 : Int) < (L.getD k 0 : Int) := by omega
            have HG2 : Hid (∀ j, j < k + 1 → L.getD j 0 ≤ 56) := Lib.hid (fun j hj => by
              by_cases e : j = k
              · subst e; omega
              · exact HG.out j (by omega))
            have hk2 := (h.pull 2).set k (.int .u8 ((L.getD k 0 % 256 : Nat) : Int))
            rw [tabV_set _ _ _ _ hlt, ← tabL_succ] at hk2
            have ck := cell_of_heap (h.pull 2).blk k
            rw [tabV_get _ _ _ hlt] at ck
            have fk := free_of_heap (h.pull 2).blk k
            have H5 : Hid (St S W _ [ownT 24 1 (.slice (some ⟨g, 0, none⟩) 256 c) 256 (numsV L), rdT b s a2, blkT tb (tabV .u8 (tabL L (k + 1))) 27]) := Lib.hid ((hk2.pull 2).pull 2)
            have hmod : L.getD k 0 % 256 = L.getD k 0 := Nat.mod_eq_of_lt (by omega)
            rw [hmod] at H5
            clear h hk2 HG hmod
            generalize tabL L k k = y at ck
            generalize L.getD k 0 = x at *
            have hw8 : IntKind.u8.wrap (x : Int) = (x : Int) := by rw [IntKind.wrap_u8]; omega
            go_wp2_with fail
            exact ⟨⟨k + 1, by go_num, by omega, HG2, H5.out⟩, by simp only [intOf]; omega⟩
        · obtain rfl : k = 256 := by omega
          have hl1 : ¬ ((256 : Nat) : Int) < 256 := by omega
          have HOK : Hid (lensOK 0 L = true) := Lib.hid (by
            unfold lensOK
            rw [HLn.out, Bool.and_eq_true, Bool.and_eq_true]
            refine ⟨⟨rfl, rfl⟩, List.all_eq_true.2 fun x hx => ?_⟩
            obtain ⟨j, hj, rfl⟩ := List.mem_iff_getElem.1 hx
            have := HG.out j (by rw [← HLn.out]; exact hj)
            rw [List.getD_eq_getElem?_getD, List.getElem?_eq_getElem hj] at this
            exact decide_eq_true this)
          obtain ⟨ct, hct⟩ : ∃ ct, ct = tabL L 256 := ⟨_, rfl⟩
          have hlt8 := tabL_lt L 256
          rw [← hct] at h hlt8
          have HCT := Lib.hid hct
          have hb := Lib.hid (h.pull 2).blk
          clear HG hct
          go_wp2_with (first
            | (refine wpList_load_row rfl _ _ rfl tb rfl 27 (tabV .u8 ct) (0, 0) (.array 256 5) hb.out Try.underlying27 rfl (size8 _) ?_)
            | (refine wpList_store_row rfl _ _ _ rfl tb (tabV .u8 ct) rfl rfl 27 (tabV .u8 ct) hb.out (size8 _) rfl (tabV_one _ _) ?_; rw [setRow_self _ _ _ _ _ hb.out]))
          refine bodyPost_ret_by (results_pairH rfl _ _ tb 27 _ (0, 0) (.array 256 5) rfl hb.out Try.underlying27 rfl (size8 _)) rfl ?_
          rw [HOK.out]
          exact ⟨ct, hlt8, rfl, fun _ => HCT.out, h.drop.swap.drop⟩
    · have hl2 : ¬ (m : Int) = 256 := by omega
      have HOK : Hid (lensOK 0 L = false) := Lib.hid (by unfold lensOK; rw [hm, decide_eq_false hl]; rfl)
      have hb := Lib.hid (h3.pull 2).blk
      clear hm
      go_wp2_with (first
        | (refine wpList_load_row rfl _ _ rfl tb rfl 27 (tabV .u8 zt) (0, 0) (.array 256 5) hb.out Try.underlying27 rfl (size8 _) ?_)
        | (refine wpList_store_row rfl _ _ _ rfl tb (tabV .u8 zt) rfl rfl 27 (tabV .u8 zt) hb.out (size8 _) rfl (tabV_one _ _) ?_; rw [setRow_self _ _ _ _ _ hb.out]))
      refine bodyPost_ret_by (results_pairH rfl _ _ tb 27 _ (0, 0) (.array 256 5) rfl hb.out Try.underlying27 rfl (size8 _)) rfl ?_
      rw [HOK.out]
      exact ⟨zt, fun i => by rw [HZ.out]; show 0 < 256; omega, rfl, (fun e => by cases e), h3.drop.swap.drop⟩
  · have he2 : ¬ (er : Int) = 0 := by omega
    have HOK : Hid (lensOK er L = false) := Lib.hid (by unfold lensOK; rw [decide_eq_false he]; rfl)
    have hb := Lib.hid (h3.pull 2).blk
    clear hm
    go_wp2_with (first
      | (refine wpList_load_row rfl _ _ rfl tb rfl 27 (tabV .u8 zt) (0, 0) (.array 256 5) hb.out Try.underlying27 rfl (size8 _) ?_)
      | (refine wpList_store_row rfl _ _ _ rfl tb (tabV .u8 zt) rfl rfl 27 (tabV .u8 zt) hb.out (size8 _) rfl (tabV_one _ _) ?_; rw [setRow_self _ _ _ _ _ hb.out]))
    refine bodyPost_ret_by (results_pairH rfl _ _ tb 27 _ (0, 0) (.array 256 5) rfl hb.out Try.underlying27 rfl (size8 _)) rfl ?_
    rw [HOK.out]
    exact ⟨zt, fun i => by rw [HZ.out]; show 0 < 256; omega, rfl, (fun e => by cases e), h3.drop.swap.drop⟩
end Go.Proofs.Ytclhmlgbhlmekaa
