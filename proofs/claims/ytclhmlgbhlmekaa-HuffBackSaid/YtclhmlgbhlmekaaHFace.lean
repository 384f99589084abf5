/- Layer 7: the heap of trees behind an interface. -/
import Derived.Test.YtclhmlgbhlmekaaHSwap
namespace Go.Proofs.Ytclhmlgbhlmekaa
open Go.RowKit
set_option linter.unusedVariables false
set_option linter.unusedSimpArgs false
/-- a heap's address, as an interface's value -/
abbrev hpV (b : Nat) : Value := .iface 52 (.pointer (some ⟨b, 0, none⟩))
theorem run_load_slice {P : Program} {st e : TypeId} (hu2 : P.underlying st = some (.slice e)) (a : Addr) (v : Value) (w : World) (h0 : w.cell? a = some v) : (loadVar st a).run P w = .ok v w := by
  simp [loadVar, isAgg, underlying, hu2, load, h0, Result.andThen, Sem.run]
theorem wrapnil (xt ty : TypeId) (a : Addr) (x y : String) : Builtin.ssaWrapNilChk_ #[xt] ty #[.pointer (some a), strVal x, strVal y] = pure (.pointer (some a)) := rfl
theorem meth_val {P : Program} {pt st : TypeId} {name : String} {f : FuncId} {fuel : Nat} (hm : ((P.info? pt).bind fun i => (i.methods.find? (·.name == name)).map fun m => (m.path.toList, m.func)) = some ([], some (f, false)))
    (hu : P.underlying pt = some (.pointer st)) (e : TypeId) (hu2 : P.underlying st = some (.slice e))
    (b : Nat) (v : Value) (w : World) (h0 : w.cell? ⟨b, 0, none⟩ = some v) :
    (method (fuel + 1) pt (.pointer (some ⟨b, 0, none⟩)) name).run P w = .ok (f, v) w := by
  obtain ⟨i, hi, hm⟩ := Option.bind_eq_some_iff.1 hm
  obtain ⟨m, hm, he⟩ := Option.map_eq_some_iff.1 hm
  injection he with he1 he2
  have hp : m.path.isEmpty = true := by rw [Array.isEmpty_iff]; exact Array.toList_eq_nil_iff.1 he1
  have hl := run_load_slice hu2 ⟨b, 0, none⟩ v w h0
  have hp2 : m.path = #[] := Array.toList_eq_nil_iff.1 he1
  simp [method, typeInfo, hi, hm, he1, he2, hp2, follow, receiverAt, underlying, hu, Place.get, wrapnil, asAddr, hl, Result.andThen]
theorem meth_len (b : Nat) (v : Value) (w : World) (h0 : w.cell? ⟨b, 0, none⟩ = some v) : (method 248 52 (.pointer (some ⟨b, 0, none⟩)) "Len").run Try.prog w = .ok (78, v) w :=
  meth_val (by kernel_rfl) Try.underlying52 _ Try.underlying48 b v w h0
theorem len_any (A : Option Addr) (n c : Nat) (w : World) : Calls Try.prog 78 #[.slice A n c] w fun e w' => e = .returned (.int .i64 n) ∧ w = w' := by
  go_enter Try.func78, Try.ntmps78
  go_wp2
  go_ret
  exact ⟨rfl, rfl⟩
set_option maxRecDepth 20000 in
theorem several_any (b : Nat) (A : Option Addr) (n c : Nat) (w : World) (h0 : w.cell? ⟨b, 0, none⟩ = some (.slice A n c)) :
    Calls Try.prog 24 #[hpV b] w fun e w' => e = .returned (.bool (decide (1 < n))) ∧ w = w' := by
  have hm := meth_len b _ w h0
  go_enter Try.func24, Try.ntmps24
  go_wp2_with fail
  refine (len_any A n c _).mono ?_
  rintro e w1 ⟨rfl, rfl⟩
  go_wp2_with fail
  go_ret
  exact ⟨by rw [show decide ((1 : Int) < (n : Int)) = decide (1 < n) from decide_eq_decide.2 (by omega)]; rfl, rfl⟩
theorem meth_less (b : Nat) (v : Value) (w : World) (h0 : w.cell? ⟨b, 0, none⟩ = some v) : (method 248 52 (.pointer (some ⟨b, 0, none⟩)) "Less").run Try.prog w = .ok (79, v) w :=
  meth_val (by kernel_rfl) Try.underlying52 _ Try.underlying48 b v w h0
theorem meth_swap (b : Nat) (v : Value) (w : World) (h0 : w.cell? ⟨b, 0, none⟩ = some v) : (method 248 52 (.pointer (some ⟨b, 0, none⟩)) "Swap").run Try.prog w = .ok (80, v) w :=
  meth_val (by kernel_rfl) Try.underlying52 _ Try.underlying48 b v w h0
theorem hdown_end (f : Nat) (l : List WN) (i n : Nat) (h : n ≤ 2 * i + 1) : hdown f l i n = l := by
  cases f with
  | zero => rfl
  | succ f => rw [hdown, if_pos h]
/-- a heap in memory -/
def hpT (b : Nat) (A : Option Addr) (n c : Nat) (vs : Nat → Value) (l : List WN) (M : List Thing) : List Thing := blkT b #[.slice A n c] 48 :: ownT 50 3 (.slice A n c) n (l.flatMap (trC vs)) :: M
theorem hp_cell {S : Nat → Prop} {W w : World} {b : Nat} {A : Option Addr} {n c : Nat} {vs : Nat → Value} {l : List WN} {M : List Thing} (h : St S W w (hpT b A n c vs l M)) : w.cell? ⟨b, 0, none⟩ = some (.slice A n c) := cell_of_heap h.blk 0
theorem hp_less {S : Nat → Prop} {W w : World} {b : Nat} {A : Option Addr} {n c : Nat} {vs : Nat → Value} {l : List WN} {M : List Thing} (h : St S W w (hpT b A n c vs l M)) (hl : l.length = n) (hn : n ≤ 1000000) (i k : Nat) (I K : Int) (hi : i < n) (hk : k < n) (hI : I = i) (hK : K = k) :
    Calls Try.prog 79 #[.slice A n c, .int .i64 I, .int .i64 K] w fun e w' => e = .returned (.bool (wlt (hget l i) (hget l k))) ∧ St S W w' (hpT b A n c vs l M) := by
  subst hI hK
  exact (less_own h.swap.own hl hn i k hi hk).mono fun e w' ⟨he, x⟩ => ⟨he, h.ext x⟩
theorem hp_swap {S : Nat → Prop} {W w : World} {b : Nat} {A : Option Addr} {n c : Nat} {vs : Nat → Value} {l : List WN} {M : List Thing} (hv : ∀ k, (vs k).oneCell' = true) (h : St S W w (hpT b A n c vs l M)) (hl : l.length = n) (hn : n ≤ 1000000) (i k : Nat) (I K : Int) (hi : i < n) (hk : k < n) (hI : I = i) (hK : K = k) :
    Calls Try.prog 80 #[.slice A n c, .int .i64 I, .int .i64 K] w fun e w' => e = .returned (.tuple #[]) ∧ St S W w' (hpT b A n c vs (hswap l i k) M) := by
  subst hI hK
  exact (swap_st hv h.swap hl hn i k hi hk).mono fun e w' ⟨he, x⟩ => ⟨he, x.swap⟩
end Go.Proofs.Ytclhmlgbhlmekaa
