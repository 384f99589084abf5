/- Arrays of 256 numbers. -/
import Derived.Test.YtclhmlgbhlmekaaRowst
import Derived.Laws.Tables
import Derived.Laws.ResultCell
namespace Go.Proofs.Ytclhmlgbhlmekaa
open Go.RowKit
set_option linter.unusedVariables false
set_option linter.unusedSimpArgs false
def tabV (k : IntKind) (t : Nat → Nat) : Array Value := Array.ofFn (n := 256) fun i => Value.int k (t i)
theorem tabV_size (k : IntKind) (t : Nat → Nat) : (tabV k t).size = 256 := by simp [tabV]
theorem tabV_get (k : IntKind) (t : Nat → Nat) (i : Nat) (h : i < 256) : (tabV k t)[i]? = some (.int k (t i)) := by simp [tabV, h]
theorem tabV_congr {k : IntKind} {t u : Nat → Nat} (h : ∀ i, i < 256 → t i = u i) : tabV k t = tabV k u := by
  apply Array.ext_getElem?
  intro i
  by_cases hi : i < 256
  · rw [tabV_get k t i hi, tabV_get k u i hi, h i hi]
  · rw [Array.getElem?_eq_none (by rw [tabV_size]; omega), Array.getElem?_eq_none (by rw [tabV_size]; omega)]
theorem tabV_one (k : IntKind) (t : Nat → Nat) : (tabV k t).all (·.oneCell') = true := by
  rw [Array.all_eq_true]
  intro i hi
  simp [tabV, Value.oneCell']
/-- one entry is another one -/
def upd (t : Nat → Nat) (i v : Nat) : Nat → Nat := fun j => if j = i then v else t j
theorem upd_self (t : Nat → Nat) (i v : Nat) : upd t i v i = v := by unfold upd; rw [if_pos rfl]
theorem upd_ne (t : Nat → Nat) {i j : Nat} (v : Nat) (h : j ≠ i) : upd t i v j = t j := by unfold upd; rw [if_neg h]
theorem tabV_set (k : IntKind) (t : Nat → Nat) (i v : Nat) (h : i < 256) : (tabV k t).setIfInBounds i (.int k v) = tabV k (upd t i v) := by
  apply Array.ext_getElem?
  intro j
  rw [Array.getElem?_setIfInBounds]
  by_cases hj : j < 256
  · rw [tabV_get k (upd t i v) j hj, tabV_size]
    by_cases e : i = j
    · subst e; rw [if_pos rfl, if_pos h, upd_self]
    · rw [if_neg e, tabV_get k t j hj, upd_ne t v (fun e2 => e e2.symm)]
  · rw [tabV_size, if_neg (by omega), Array.getElem?_eq_none (by rw [tabV_size]; omega), Array.getElem?_eq_none (by rw [tabV_size]; omega)]
theorem zero64 : ∀ w, (zeroValue 25).run Try.prog w = .ok (.agg (tabV .u64 (fun _ => 0))) w := fun _ => by kernel_rfl
theorem zero8 : ∀ w, (zeroValue 27).run Try.prog w = .ok (.agg (tabV .u8 (fun _ => 0))) w := fun _ => by kernel_rfl
theorem size64 (t : Nat → Nat) : (Try.prog.info? 25).map (·.size) = some (tabV .u64 t).size := by rw [tabV_size]; kernel_rfl
theorem size8 (t : Nat → Nat) : (Try.prog.info? 27).map (·.size) = some (tabV .u8 t).size := by rw [tabV_size]; kernel_rfl
theorem run_index_arr {P : Program} {ty e : TypeId} {n : Nat} (hu : P.underlying ty = some (.array n e)) {k : IntKind} (he : P.underlying e = some (.int k)) (hs : (P.info? e).map (·.size) = some 1) (cs : Array Value) (i : Nat) (v : Value) (hi : i < n) (hv : cs[i]? = some v) (w : World) :
    (Instr.index ty (.agg cs) (.int .i64 i)).run P w = .ok v w := by
  obtain ⟨inf, h1, h2⟩ := Option.map_eq_some_iff.1 hs
  have ha : (asIntOf (.int .i64 (i : Int))).run P w = .ok (.i64, (i : Int)) w := rfl
  have hb : (0 : Int) ≤ (i : Int) ∧ (i : Int) < (n : Int) := by omega
  simp [Instr.index, ha, run_underlying hu, run_underlying he, hb, part, isAgg, sizeOf, typeInfo, h1, h2, hv, Result.andThen]
  intro h; omega
theorem index8 (cs : Array Value) (i : Nat) (v : Value) (hi : i < 256) (hv : cs[i]? = some v) (w : World) : (Instr.index 27 (.agg cs) (.int .i64 i)).run Try.prog w = .ok v w :=
  run_index_arr Try.underlying27 Try.underlying5 (by kernel_rfl) cs i v hi hv w
theorem index64 (cs : Array Value) (i : Nat) (v : Value) (hi : i < 256) (hv : cs[i]? = some v) (w : World) : (Instr.index 25 (.agg cs) (.int .i64 i)).run Try.prog w = .ok v w :=
  run_index_arr Try.underlying25 Try.underlying24 (by kernel_rfl) cs i v hi hv w
end Go.Proofs.Ytclhmlgbhlmekaa
