/- Arrays of 256 numbers are compared. -/
import Derived.Test.YtclhmlgbhlmekaaHf
import Derived.Laws.StructEq
namespace Go.Proofs.Ytclhmlgbhlmekaa
open Go.RowKit
set_option linter.unusedVariables false
set_option linter.unusedSimpArgs false
set_option linter.unusedSectionVars false
theorem forIn_ok {P : Program} {α β : Type} (s : β) (b : α → β → Sem (ForInStep β)) (w : World) : ∀ (l : List α), (∀ i ∈ l, (b i s).run P w = .ok (.yield s) w) → (forIn l s b).run P w = .ok s w
  | [], _ => by simp
  | a :: l, h => by
    have h1 := h a (List.mem_cons_self ..)
    have h2 := forIn_ok s b w l (fun i hi => h i (List.mem_cons_of_mem _ hi))
    rw [List.forIn_cons]
    simp only [Sem.run_bind, h1, Result.andThen_ok]
    exact h2
theorem run_equalIn_arr {P : Program} (d : Nat) {t e : TypeId} {n : Nat} (hu : P.underlying t = some (.array n e)) {k : IntKind} (he : P.underlying e = some (.int k)) (hs : (P.info? e).map (·.size) = some 1) (xs : Array Value) (w : World)
    (hx : ∀ i, i < n → ∃ v, xs[i]? = some v ∧ (Op.equalIn d e v v).run P w = .ok true w) :
    (Op.equalIn (d + 1) t (.agg xs) (.agg xs)).run P w = .ok true w := by
  obtain ⟨inf, h1, h2⟩ := Option.map_eq_some_iff.1 hs
  simp only [Op.equalIn, Sem.run_bind, run_underlying hu, Result.andThen_ok, sizeOf, typeInfo]
  simp [h1, h2, Result.andThen]
  rw [forIn_ok]
  · rfl
  · intro i hi
    simp only [List.mem_range'_1] at hi
    obtain ⟨v, h3, h4⟩ := hx i (by omega)
    simp [part, isAgg, run_underlying he, sizeOf, typeInfo, h1, h2, h3, h4, Result.andThen]
theorem eql_arr8 (t : Nat → Nat) (w : World) : (binOp .eql 27 (.agg (tabV .u8 t)) (.agg (tabV .u8 t))).run Try.prog w = .ok (.bool true) w := by
  rw [run_eql_struct, run_equalIn_arr 9999 Try.underlying27 Try.underlying5 (by kernel_rfl) _ _ (fun i hi => ⟨_, tabV_get _ _ i hi, ?_⟩)]
  · rfl
  · rw [show (9999 : Nat) = 9998 + 1 from rfl, run_equalIn_int w 9998 5 .u8 .u8 _ _ Try.underlying5, beq_self_eq_true]
theorem eql_arr64 (t : Nat → Nat) (w : World) : (binOp .eql 25 (.agg (tabV .u64 t)) (.agg (tabV .u64 t))).run Try.prog w = .ok (.bool true) w := by
  rw [run_eql_struct, run_equalIn_arr 9999 Try.underlying25 Try.underlying24 (by kernel_rfl) _ _ (fun i hi => ⟨_, tabV_get _ _ i hi, ?_⟩)]
  · rfl
  · rw [show (9999 : Nat) = 9998 + 1 from rfl, run_equalIn_int w 9998 24 .u64 .u64 _ _ Try.underlying24, beq_self_eq_true]
end Go.Proofs.Ytclhmlgbhlmekaa
