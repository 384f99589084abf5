/- Layer 7: container/heap's Push and Pop, and least, on trees. -/
import Derived.Test.YtclhmlgbhlmekaaHPop
import Derived.Laws.ResultCell
import Derived.Laws.Rows
namespace Go.Proofs.Ytclhmlgbhlmekaa
open Go.RowKit
set_option linter.unusedVariables false
set_option linter.unusedSimpArgs false
theorem results_one {P : Program} {fn : Func} {p : Tmp} {ty : TypeId} (h : fn.results = #[.cell p ty]) (tmps : Array Value) (w : World) (g : Nat) (t : TypeId) (cs : Array Value) (fr : Nat × Nat) (d : TypeDesc)
    (hp : tmps.getD p undef = .pointer (some ⟨g, 0, none⟩)) (hg : w.heap[g]? = some (.cells cs t fr))
    (hu : P.underlying ty = some d) (hd : (match d with | .struct _ | .array _ _ => true | _ => false) = true) (hi : (P.info? ty).map (·.size) = some cs.size) :
    (results fn tmps).run P w = .ok (.agg cs) w := by
  rw [Array.getD_eq_getD_getElem?] at hp
  simp only [results, h]
  simp [Sem.run_bind, Result.andThen, hp, asAddr, run_loadVar_row w g t ty cs fr d hg hu hd hi]
section
variable {S : Nat → Prop} {W : World} {b : Nat} {A : Option Addr} {n c : Nat} {vs : Nat → Value} {M : List Thing}
set_option maxRecDepth 20000 in
set_option maxHeartbeats 4000000 in
theorem push_st {w : World} {l : List WN} (hv : ∀ k, (vs k).oneCell' = true) (h : St S W w (hpT b A n c vs l M)) (hl : l.length = n) (hn : n < 1000000) (xw xn : Nat) :
    Calls Try.prog 27 #[hpV b, .iface 50 (.agg #[.int .u64 xw, .int .i64 xn, vs xn])] w fun e w' => e = .returned (.tuple #[]) ∧ ∃ A' c', St S W w' (hpT b A' (n + 1) c' vs (hpush l (xw, xn)) M) := by
  have HT := Lib.hid (tpush_st h (by omega) xw xn (hv xn))
  have hm := fun w => meth_push (.pointer (some ⟨b, 0, none⟩)) w
  clear h
  go_enter Try.func27, Try.ntmps27
  go_wp2_with fail
  refine HT.out.mono ?_
  rintro e w1 ⟨rfl, A', c', h1⟩
  clear HT hm
  have hm := meth_len b _ w1 (hp_cell h1)
  have HU := Lib.hid (up_st hv h1 (by rw [List.length_append, hl]; rfl) (by omega) n (l.length + 1) (by omega) (by omega))
  have e1 : hup (l.length + 1) (l ++ [(xw, xn)]) n = hpush l (xw, xn) := by rw [← hl]; rfl
  rw [e1] at HU
  have hz : ((n + 1 : Nat) : Int) - 1 = (n : Int) := by omega
  clear h1 e1
  go_wp2_with fail
  refine (len_any A' (n + 1) c' _).mono ?_
  rintro e w2 ⟨rfl, rfl⟩
  clear hm
  go_wp2_with fail
  refine HU.out.mono ?_
  rintro e w3 ⟨rfl, h3⟩
  go_wp2_with fail
  go_end0
  exact ⟨rfl, A', c', h3⟩
set_option maxRecDepth 20000 in
set_option maxHeartbeats 4000000 in
theorem tpop_st {w : World} {l : List WN} (hv : ∀ k, ∃ A n c, vs k = .slice A n c) (h : St S W w (hpT b A (n + 1) c vs l M)) (hl : l.length = n + 1) (hn : n < 1000000) :
    Calls Try.prog 86 #[.pointer (some ⟨b, 0, none⟩)] w fun e w' => e = .returned (.iface 50 (.agg (trC vs (hget l n)).toArray)) ∧ St S W w' (hpT b A n c vs (l.take n) M) := by
  have hp := hp_cell h
  have hf := free_of_heap h.blk 0
  obtain ⟨g, hA, hc⟩ := tr_cells h.swap.own hl (by omega)
  obtain ⟨k0, k1, k2⟩ := hc n (by omega)
  clear hc
  subst hA
  unfold trC
  have va := hv (hget l n).2
  generalize vs (hget l n).2 = v at k2 va ⊢
  obtain ⟨A2, n2, c2, rfl⟩ := va
  generalize hget l n = x at k0 k1 ⊢
  obtain ⟨xw, xn⟩ := x
  simp only at k0 k1 ⊢
  have hz : ((n + 1 : Nat) : Int) - 1 = (n : Int) := by omega
  have h2 := h.alloc #[Value.int .u64 xw, Value.int .i64 xn, Value.slice A2 n2 c2] 50
  have hp2 := cell_of_heap h2.swap.blk 0
  have hf2 := free_of_heap h2.swap.blk 0
  change World.cell? _ _ = some (Value.slice (some ⟨g, 0, none⟩) (n + 1) c) at hp2
  have h3 := h2.swap.set 0 (.slice (some ⟨g, 0, none⟩) n c)
  have j0 := cell_of_heap h3.swap.blk 0
  have j1 := cell_of_heap h3.swap.blk 1
  have j2 := cell_of_heap h3.swap.blk 2
  change World.cell? _ _ = some (Value.int .u64 xw) at j0
  change World.cell? _ _ = some (Value.int .i64 xn) at j1
  change World.cell? _ _ = some (Value.slice A2 n2 c2) at j2
  have hc2 : n ≤ c := by
    obtain ⟨q1, q2, e, q3, hc1, q4⟩ := h.swap.own.slice (by omega)
    simp only [Value.slice.injEq, Option.some.injEq, Addr.mk.injEq] at e
    omega
  have hlist : (l.flatMap (trC vs)).take (n * 3) = (l.take n).flatMap (trC vs) := flat_take' (trC_len vs) l n (by omega)
  have h4 := ((h3.pull 2).shrink (m := n) (by omega))
  rw [hlist] at h4
  have h5 := (h4.swap.under (fun _ ht => ht.swap)).pull 1
  have HS := Lib.hid h5
  clear h h2 h3 h4 h5 hlist hl
  go_enter Try.func86, Try.ntmps86
  go_wp2_with fail
  go_ret
  exact ⟨rfl, HS.out.drop⟩
end
end Go.Proofs.Ytclhmlgbhlmekaa
