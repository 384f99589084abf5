/- Layer 7: counts. -/
import Derived.Test.YtclhmlgbhlmekaaTab
namespace Go.Proofs.Ytclhmlgbhlmekaa
open Go.RowKit
set_option linter.unusedVariables false
set_option linter.unusedSimpArgs false
/-- how often byte c is there -/
def cntF (l : List UInt8) (c : Nat) : Nat := l.countP (fun x => x.toNat == c)
theorem cntF_le (l : List UInt8) (c : Nat) : cntF l c ≤ l.length := List.countP_le_length
theorem cntF_snoc (l : List UInt8) (x : UInt8) : (fun c => cntF (l ++ [x]) c) = upd (cntF l) x.toNat (cntF l x.toNat + 1) := by
  funext c
  unfold upd cntF
  rw [List.countP_append]
  by_cases h : c = x.toNat
  · subst h; simp
  · rw [if_neg h, List.countP_singleton, if_neg (by simpa using fun e => h e.symm)]; rfl
set_option maxRecDepth 20000 in
set_option maxHeartbeats 4000000 in
theorem count_any (s : ByteArray) (hs : s.size ≤ 140737488351232) (w : World) :
    Calls Try.prog 17 #[.string s] w fun e w' => e = .returned (.agg (tabV .u64 (cntF s.data.toList))) ∧ Ext w w' := by
  have hz := zero64
  go_enter Try.func17, Try.ntmps17
  go_wp2
  have h1 := (St.start noB w).alloc (tabV .u64 (fun _ => 0)) 25
  generalize w.heap.size = g at h1 ⊢
  generalize w.alloc (.cells (tabV .u64 (fun _ => 0)) 25) = w1 at h1 ⊢
  clear hz
  go_loopw [6] (fun v6 wr => ∃ i : Nat, v6 = .int .i64 i ∧ i ≤ s.size ∧ St noB w wr [blkT g (tabV .u64 (cntF (s.data.toList.take i))) 25]) (fun v6 _ => s.size - (intOf v6).toNat)
  case atStart => exact ⟨0, rfl, Nat.zero_le _, h1⟩
  case round =>
    clear h1
    obtain ⟨i, rfl, hi, h⟩ := hrel
    by_cases hlt : i < s.size
    · have hx8 := s[i].toNat_lt
      have ht : s.data.toList.take (i + 1) = s.data.toList.take i ++ [s[i]] := by
        rw [List.take_succ_eq_append_getElem (by simpa using hlt)]; rfl
      have hle := cntF_le (s.data.toList.take i) s[i].toNat
      rw [List.length_take] at hle
      have hb := h.blk
      have k0 := cell_of_heap hb s[i].toNat
      rw [tabV_get _ _ _ (by omega)] at k0
      have f0 := free_of_heap hb s[i].toNat
      have h2 := h.set s[i].toNat (.int .u64 ((cntF (s.data.toList.take i) s[i].toNat + 1 : Nat) : Int))
      rw [tabV_set _ _ _ _ (by omega), ← cntF_snoc, ← ht] at h2
      clear h hb ht
      obtain ⟨x, hx⟩ : ∃ x, s[i].toNat = x := ⟨_, rfl⟩
      rw [hx] at k0 f0 h2 hx8 hle
      generalize cntF (s.data.toList.take i) x = q at k0 h2 hle
      have hlz : (i : Int) < (s.size : Int) := by omega
      have hw : IntKind.u64.wrap ((q : Int) + 1) = (q : Int) + 1 := by rw [IntKind.wrap_u64]; omega
      go_wp2_with fail
      go_roundw
      case rel => first | exact ⟨i + 1, by go_num, by omega, h2⟩ | ((repeat apply Exists.intro); exact ⟨⟨i + 1, by go_num, by omega, h2⟩, rfl⟩)
      case measure => first | (simp [intOf]; done) | (simp [intOf]; omega)
    · obtain rfl : i = s.size := by omega
      rw [List.take_of_length_le (by simp)] at h
      have hlz : ¬ (s.size : Int) < (s.size : Int) := by omega
      have hb := Lib.hid h.blk
      obtain ⟨q, hq⟩ : ∃ q, q = cntF s.data.toList := ⟨_, rfl⟩
      rw [← hq] at h hb
      have HQ := Lib.hid hq
      clear hq
      have HE := Lib.hid h.ends
      clear h
      go_wp2_with (first
        | (refine wpList_load_row rfl _ _ rfl g rfl 25 (tabV .u64 q) (0, 0) (.array 256 24) hb.out Try.underlying25 rfl (size64 _) ?_)
        | (refine wpList_store_row rfl _ _ _ rfl g (tabV .u64 q) rfl rfl 25 (tabV .u64 q) hb.out (size64 _) rfl (tabV_one _ _) ?_; rw [setRow_self _ _ _ _ _ hb.out]))
      refine bodyPost_ret_by (v := .agg (tabV .u64 q)) (results_cell_row rfl _ _ g 25 (tabV .u64 q) (0, 0) (.array 256 24) rfl hb.out Try.underlying25 rfl (size64 _)) rfl ?_
      rw [← HQ.out]
      exact ⟨rfl, HE.out⟩
end Go.Proofs.Ytclhmlgbhlmekaa
