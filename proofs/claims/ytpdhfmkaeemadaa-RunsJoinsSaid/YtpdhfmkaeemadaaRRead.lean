/- Layer 4: runs read. -/
import Derived.Test.YtpdhfmkaeemadaaRPrint2
import Derived.Laws.ResultCell
import Derived.Laws.Rows
import Derived.Laws.NewBlocks
namespace Go.Proofs.Ytpdhfmkaeemadaa
open Go.RowKit Go.WideShapes
set_option linter.unusedVariables false
set_option linter.unusedSimpArgs false
/-- value, count, error, place behind -/
def rd2 (l : List UInt8) (a : Nat) : Nat × Nat × Nat × Nat :=
  if (vrd l a).2.1 = 0 then ((vrd l a).1, (vrd l (vrd l a).2.2).1, (vrd l (vrd l a).2.2).2.1, (vrd l (vrd l a).2.2).2.2) else (0, 0, (vrd l a).2.1, (vrd l a).2.2)
theorem rd2_facts (l : List UInt8) (a : Nat) (ha : a ≤ l.length) : (rd2 l a).1 < 18446744073709551616 ∧ (rd2 l a).2.1 < 18446744073709551616 ∧ (rd2 l a).2.2.1 ≤ 3 ∧ a ≤ (rd2 l a).2.2.2 ∧ (rd2 l a).2.2.2 ≤ l.length := by
  have h1 := vrd_facts l a ha
  have h2 := vrd_facts l (vrd l a).2.2 h1.2.2.2
  unfold rd2
  split
  · exact ⟨h1.1, h2.1, h2.2.1, Nat.le_trans h1.2.2.1 h2.2.2.1, h2.2.2.2⟩
  · exact ⟨by simp, by simp, h1.2.1, h1.2.2.1, h1.2.2.2⟩
def rls (l : List UInt8) (most : Nat) : Nat → Nat → List Nat → List Nat × Nat × Nat
  | 0, a, acc => (acc, 0, a)
  | n + 1, a, acc => if (rd2 l a).2.2.1 = 0 then (if acc.getLast? = some (rd2 l a).1 then ([], 3, (rd2 l a).2.2.2) else if most ≤ (rd2 l a).2.1 + acc.length then ([], 4, (rd2 l a).2.2.2) else rls l most n (rd2 l a).2.2.2 (acc ++ List.replicate ((rd2 l a).2.1 + 1) (rd2 l a).1)) else ([], (rd2 l a).2.2.1, (rd2 l a).2.2.2)
def rrl (l : List UInt8) (a : Nat) (most : Int) : List Nat × Nat × Nat :=
  if most < 0 then ([], 1, a) else if (vrd l a).2.1 = 0 then rls l most.toNat (vrd l a).1 (vrd l a).2.2 [] else ([], (vrd l a).2.1, (vrd l a).2.2)
theorem results_pair {P : Program} {fn : Func} {p u : Tmp} {ty : TypeId} (h : fn.results = #[.cell p ty, .tmp u]) (tmps : Array Value) (w : World) (g : Nat) (t : TypeId) (cs : Array Value) (fr : Nat × Nat) (d : TypeDesc)
    (hp : tmps.getD p undef = .pointer (some ⟨g, 0, none⟩)) (hg : w.heap[g]? = some (.cells cs t fr))
    (hu : P.underlying ty = some d) (hd : (match d with | .struct _ | .array _ _ => true | _ => false) = true) (hi : (P.info? ty).map (·.size) = some cs.size) :
    (results fn tmps).run P w = .ok (.tuple #[.agg cs, tmps.getD u undef]) w := by
  rw [results_cell_tmp h, hp]
  simp [asAddr, Result.andThen, run_loadVar_row w g t ty cs fr d hg hu hd hi]
section
variable {S : Nat → Prop} {W w : World} {M : List Thing} {b : Nat} {s : ByteArray} {a : Nat}
set_option maxRecDepth 20000 in
set_option maxHeartbeats 2000000 in
theorem pread_st (h : St S W w (rdT b s a :: M)) (hs : s.size ≤ 1000000) (ha : a ≤ s.size) :
    Calls Try.prog 27 #[.pointer (some ⟨b, 0, none⟩)] w fun e w' => e = .returned (.tuple #[.agg #[.int .u64 (rd2 s.data.toList a).1, .int .u64 (rd2 s.data.toList a).2.1], .int .i64 (rd2 s.data.toList a).2.2.1]) ∧ St S W w' (rdT b s (rd2 s.data.toList a).2.2.2 :: M) := by
  have hf := vrd_facts s.data.toList a (by simpa using ha)
  have h0 := h.alloc #[Value.int .u64 0, Value.int .u64 0] 36
  have HV := Lib.hid (vread_st h0.swap (by omega) ha)
  have HR := Lib.hid (show rd2 s.data.toList a = if (vrd s.data.toList a).2.1 = 0 then ((vrd s.data.toList a).1, (vrd s.data.toList (vrd s.data.toList a).2.2).1, (vrd s.data.toList (vrd s.data.toList a).2.2).2.1, (vrd s.data.toList (vrd s.data.toList a).2.2).2.2) else (0, 0, (vrd s.data.toList a).2.1, (vrd s.data.toList a).2.2) from rfl)
  generalize rd2 s.data.toList a = R at HR ⊢
  generalize vrd s.data.toList a = T at HV HR hf
  obtain ⟨n, er, en⟩ := T
  obtain ⟨hn, her, hen, hel⟩ := hf
  simp only at HV HR hn her hen hel
  rw [show s.data.toList.length = s.size by simp] at hel
  clear h h0
  by_cases he : er = 0
  · subst he
    rw [if_pos rfl] at HR
    go_enter Try.func27, Try.ntmps27
    go_wp2_with fail
    refine HV.out.mono ?_
    rintro e w2 ⟨rfl, h2⟩
    have HV2 := Lib.hid (vread_st h2 (by omega) hel)
    generalize vrd s.data.toList en = T2 at HV2 HR
    obtain ⟨n2, er2, en2⟩ := T2
    simp only at HV2 HR
    clear HV h2
    go_wp2_with fail
    refine HV2.out.mono ?_
    rintro e w3 ⟨rfl, h3⟩
    clear HV2
    generalize w.heap.size = x at h3 ⊢
    have h3 := h3.swap
    have hb := h3.blk
    have k0 := cell_of_heap hb 0
    have k1 := cell_of_heap hb 1
    have f0 := free_of_heap hb 0
    have f1 := free_of_heap hb 1
    change _ = some (Value.int .u64 0) at k0
    change _ = some (Value.int .u64 0) at k1
    clear hb
    go_wp2_with fail
    have h5 := (h3.set 0 (.int .u64 (n : Nat))).set 1 (.int .u64 (n2 : Nat))
    refine bodyPost_ret_by (results_pair rfl _ _ x 36 #[Value.int .u64 n, Value.int .u64 n2] (0, 0) _ rfl h5.blk Try.underlying36 rfl (by kernel_rfl)) rfl ?_
    rw [HR.out]
    exact ⟨rfl, h5.drop⟩
  · rw [if_neg he] at HR
    have hne : ((er : Int) != 0) = true := by rw [bne_iff_ne]; omega
    clear he
    go_enter Try.func27, Try.ntmps27
    go_wp2_with fail
    refine HV.out.mono ?_
    rintro e w2 ⟨rfl, h2⟩
    clear HV
    generalize w.heap.size = x at h2 ⊢
    have h2 := h2.swap
    have hb := h2.blk
    have k0 := cell_of_heap hb 0
    have k1 := cell_of_heap hb 1
    have f0 := free_of_heap hb 0
    have f1 := free_of_heap hb 1
    change _ = some (Value.int .u64 0) at k0
    change _ = some (Value.int .u64 0) at k1
    clear hb
    go_wp2_with fail
    have h5 := (h2.set 0 (.int .u64 0)).set 1 (.int .u64 0)
    refine bodyPost_ret_by (results_pair rfl _ _ x 36 #[Value.int .u64 0, Value.int .u64 0] (0, 0) _ rfl h5.blk Try.underlying36 rfl (by kernel_rfl)) rfl ?_
    rw [HR.out]
    exact ⟨rfl, h5.drop⟩
end
end Go.Proofs.Ytpdhfmkaeemadaa
