/- The walks of layer 5's functions: Table, More, Sum, By, and the document's Sum. -/
import Derived.Test.YtebpcknloakjfaaWalkA
namespace Go.Proofs.Ytebpcknloakjfaa
open Go.RowKit
set_option linter.unusedVariables false

/-- an array of 256 numbers of 32 bits -/
def tabV (t : Nat → Nat) : Array Value := Array.ofFn (n := 256) fun i => Value.int .u32 (t i)
theorem tabV_size (t : Nat → Nat) : (tabV t).size = 256 := by simp [tabV]
theorem tabV_get (t : Nat → Nat) (i : Nat) (h : i < 256) : (tabV t)[i]? = some (.int .u32 (t i)) := by simp [tabV, h]
theorem tabV_congr {t u : Nat → Nat} (h : ∀ i, i < 256 → t i = u i) : tabV t = tabV u := by
  apply Array.ext
  · simp [tabV]
  · intro i h1 h2; simp only [tabV, Array.getElem_ofFn]; rw [h i (by simpa [tabV] using h1)]
theorem tabV_set (t : Nat → Nat) (k v : Nat) : (tabV t).setIfInBounds k (.int .u32 v) = tabV (fun i => if i = k then v else t i) := by
  apply Array.ext
  · simp [tabV]
  · intro i h1 h2
    have hi : i < 256 := by simpa [tabV] using h2
    by_cases h : i = k
    · subst h; simp [tabV]
    · rw [Array.getElem_setIfInBounds (by simpa [tabV] using hi)]
      simp [tabV, h, Ne.symm h]

theorem zero23 : ∀ w, (zeroValue 23).run Try.prog w = .ok (.agg (tabV (fun _ => 0))) w := fun _ => by kernel_rfl

theorem tabV_one (t : Nat → Nat) : (tabV t).all (·.oneCell') = true := by
  rw [Array.all_eq_true_iff_forall_mem]; intro x hx
  simp only [tabV, Array.mem_ofFn] at hx
  obtain ⟨i, rfl⟩ := hx; rfl
theorem size23 (t : Nat → Nat) : (Try.prog.info? 23).map (·.size) = some (tabV t).size := by rw [tabV_size]; kernel_rfl
def tabK (i : Nat) : Nat → Nat := fun k => if k < i then ent k else 0

set_option maxHeartbeats 400000 in
set_option maxRecDepth 20000 in
theorem table_any (w : World) :
    Calls Try.prog 8 #[] w fun e w' => e = .returned (.agg (tabV ent)) ∧ Ext w w' := by
  have hz := zero23
  go_enter Try.func8, Try.ntmps8
  go_wp2
  go_loopw [2] (fun vi wr => ∃ i : Nat, i ≤ 256 ∧ vi = .int .i64 i ∧ Ext w wr ∧ w.heap.size < wr.heap.size ∧ Hid (wr.heap[w.heap.size]? = some (.cells (tabV (tabK i)) 23 (0, 0)))) (fun vi _ => 256 - (intOf vi).toNat)
  case atStart =>
    exact ⟨0, by omega, rfl, (Mut.refl _ _).alloc _, by simp, Lib.hid (heap_alloc_self _ _)⟩
  case round =>
    obtain ⟨i, hi, rfl, hx, hs, hh⟩ := hrel
    clear hz
    by_cases hlt : i < 256
    · have hf := free_of_heap hh.out i
      have hc : wr.cell? ⟨w.heap.size, i, none⟩ = some (.int .u32 (tabK i i : Nat)) := by rw [cell_of_heap hh.out, tabV_get _ _ hlt]
      have hset := heap_setCell hh.out i (.int .u32 (ent i : Nat))
      rw [tabV_set, tabV_congr (u := tabK (i + 1)) (fun k _ => by unfold tabK; by_cases h : k = i <;> simp [h] <;> (split <;> split <;> first | rfl | omega))] at hset
      have hset2 := Lib.hid hset; clear hset
      go_wp2_with (go_at_call 15; refine (entry_any _ (by omega) _).mono ?_; rintro e w' ⟨rfl, rfl⟩)
      all_goals go_roundw
      case rel => exact ⟨i + 1, by omega, by go_num, hx.setCell (.inl (Nat.le_refl _)) _, by simpa using hs, hset2⟩
      case measure => simp [intOf]; omega
    · obtain rfl : i = 256 := by omega
      go_wp2_with (first
        | (refine wpList_load_row rfl _ _ rfl w.heap.size rfl 23 (tabV (tabK 256)) (0, 0) (.array 256 22) hh.out Try.underlying23 rfl (size23 _) ?_)
        | (refine wpList_store_row rfl _ _ _ rfl w.heap.size (tabV (tabK 256)) rfl rfl 23 (tabV (tabK 256)) hh.out (size23 _) rfl (tabV_one _) ?_; rw [setRow_self _ _ _ _ _ hh.out]))
      refine ⟨rfl, _, results_cell_row rfl _ _ w.heap.size 23 (tabV (tabK 256)) (0, 0) (.array 256 22) rfl hh.out Try.underlying23 rfl (size23 _), ?_, hx⟩
      rw [tabV_congr (u := ent) (fun k hk => by simp [tabK, hk])]

theorem xor8_u8 (n : Nat) (c : UInt8) : bits .xor .u8 ((n : Int) % 256) (c.toNat : Int) = (((n % 256) ^^^ c.toNat : Nat) : Int) := by
  have := u8_xor_nat (n % 256) c.toNat (by omega) c.toNat_lt
  rw [← this]; simp
theorem take_snoc (s : ByteArray) (k : Nat) (h : k < s.size) : s.data.toList.take (k + 1) = s.data.toList.take k ++ [s[k]] := by
  rw [List.take_succ_eq_append_getElem (by simpa using h)]; rfl
theorem take_all (s : ByteArray) : s.data.toList.take s.size = s.data.toList := List.take_of_length_le (by simp)

def FoldAt (t : Nat → Nat) (n0 : Nat) (s : ByteArray) (k n : Nat) : Prop := n = cfold t n0 (s.data.toList.take k)
theorem FoldAt.next {t : Nat → Nat} {n0 : Nat} {s : ByteArray} {k n : Nat} (h : FoldAt t n0 s k n) (hk : k < s.size) : FoldAt t n0 s (k + 1) (cstep t n s[k].toNat) := by
  unfold FoldAt at h ⊢
  rw [take_snoc s k hk, cfold_snoc, ← h]

set_option maxRecDepth 20000 in
set_option maxHeartbeats 400000 in
theorem more_any (t : Nat → Nat) (ht : ∀ i, i < 256 → t i < 4294967296) (sum : Nat) (hs : sum < 4294967296) (s : ByteArray) (hsz : s.size ≤ maxLen) (w : World) :
    Calls Try.prog 14 #[.agg (tabV t), .int .u32 sum, .string s] w fun e w' => e = .returned (.int .u32 (cmore t sum s.data.toList : Nat)) ∧ Ext w w' := by
  unfold maxLen at hsz
  go_enter Try.func14, Try.ntmps14
  go_wp2
  rw [xor_ones sum hs]
  go_loop [7, 13] (fun vn vi => ∃ (k n : Nat), k ≤ s.size ∧ n < 4294967296 ∧ vi = .int .i64 k ∧ vn = .int .u32 n ∧ Hid (FoldAt t (sum ^^^ ones) s k n)) (fun _ vi => s.size - (intOf vi).toNat)
  case atStart => exact ⟨0, _, by omega, xor_lt32 hs ones_lt, rfl, rfl, Lib.hid rfl⟩
  case round =>
    obtain ⟨k, n, hk, hn, rfl, rfl, H⟩ := hrel
    by_cases hlt : k < s.size
    · have H2 := Lib.hid (H.out.next hlt)
      have hl := cstep_lt t ht hn s[k].toNat_lt
      have hx := xor8_u8 n s[k]
      have hb := xor8_lt n s[k].toNat s[k].toNat_lt
      have hc : ((w.alloc (Obj.cells (tabV t) 23)).cell? ⟨w.heap.size, (n % 256) ^^^ s[k].toNat, none⟩) = some (.int .u32 (t ((n % 256) ^^^ s[k].toNat))) := by
        rw [← tabV_get t _ hb]; simp
      have htt := ht _ hb
      have hq := u32_xor_nat (n / 256) (t ((n % 256) ^^^ s[k].toNat)) (by omega) htt
      go_wp2
      go_round
      case rel => exact ⟨k + 1, _, by omega, hl, by go_num, iv (by unfold cstep; rw [← hq]; simp), H2⟩
      case measure => simp [intOf]; omega
    · obtain rfl : k = s.size := by omega
      have hl := H.out
      unfold FoldAt at hl
      rw [take_all] at hl
      have hq : bits .xor .u32 (n : Int) 4294967295 = (cmore t sum s.data.toList : Nat) := by rw [xor_ones n hn, hl]; rfl
      clear hl
      go_wp2
      go_ret
      exact ⟨rfl, (Mut.refl _ _).alloc _⟩
end Go.Proofs.Ytebpcknloakjfaa
