/- Layer 21: events are compared. -/
import Derived.Test.YtjdglpngcdcneaaGreatERight
import Derived.Test.YtjdglpngcdcneaaGreatHg
namespace Go.Proofs.YtjdglpngcdcneaaGreat
open Go.RowKit Go.WideShapes
set_option linter.unusedVariables false
set_option linter.unusedSimpArgs false
set_option linter.unusedSectionVars false
theorem fields_ev : Tryz.prog.underlying 36 = some (.struct (Tryz.prog.fieldsOf 36)) := by kernel_rfl
theorem fields_evl : ((Tryz.prog.fieldsOf 36).toList.map fun f => (f.name == "_", f.type, f.offset)) = [(false, 3, 0), (false, 3, 1), (false, 3, 2), (false, 34, 3), (false, 34, 4)] := by kernel_rfl
theorem stood_ev : Tryz.prog.stoodInHeld 36 = false := by kernel_rfl
theorem size_i64 : (Tryz.prog.info? 3).map (·.size) = some 1 := by kernel_rfl
theorem five_of_len {α : Type} {l : List α} (h : l.length = 5) : ∃ a b c d e, l = [a, b, c, d, e] := by
  match l, h with
  | [a, b, c, d, e], _ => exact ⟨a, b, c, d, e, rfl⟩
theorem fields_five : (Tryz.prog.fieldsOf 36).toList.length = 5 := by kernel_rfl
theorem equalIn_i64 (d : Nat) (a b : Int) (w : World) : (Op.equalIn (d + 1) 3 (.int .i64 a) (.int .i64 b)).run Tryz.prog w = .ok (decide (a = b)) w := by
  simp [Op.equalIn, run_underlying Tryz.underlying3, Result.andThen]
  rw [Bool.eq_iff_iff]; simp
theorem ev_equal (n : Nat) (x y : Ev) (w : World) : (Op.equalIn (n + 2) 36 (evV x) (evV y)).run Tryz.prog w = .ok (decide (x = y)) w := by
  obtain ⟨th, kd, rg, tk, vl⟩ := x
  obtain ⟨th2, kd2, rg2, tk2, vl2⟩ := y
  unfold evV
  rw [run_equalIn_struct _ _ _ _ _ fields_ev stood_ev]
  obtain ⟨f1, f2, f3, f4, f5, e⟩ := five_of_len fields_five
  have e2 := fields_evl
  rw [e] at e2
  simp at e2
  obtain ⟨⟨n1, t1, o1⟩, ⟨n2, t2, o2⟩, ⟨n3, t3, o3⟩, ⟨n4, t4, o4⟩, n5, t5, o5⟩ := e2
  rw [e]
  obtain ⟨i8, h8, z8⟩ := Option.map_eq_some_iff.1 size_i64
  obtain ⟨i64, h64, z64⟩ := Option.map_eq_some_iff.1 size_u64
  simp [Op.eqFields, n1, n2, n3, n4, n5, t1, t2, t3, t4, t5, o1, o2, o3, o4, o5, part, isAgg, sizeOf, typeInfo, h8, h64, z8, z64, run_underlying Tryz.underlying3, run_underlying Tryz.underlying34, equalIn_i64, equalIn_u64, Result.andThen]
  by_cases h1 : th = th2 <;> by_cases h2 : kd = kd2 <;> by_cases h3 : rg = rg2 <;> by_cases h4 : tk = tk2 <;> by_cases h5 : vl = vl2 <;> simp [h1, h2, h3, h4, h5]
theorem ev_eql (x y : Ev) (w : World) : (binOp .eql 36 (evV x) (evV y)).run Tryz.prog w = .ok (.bool (decide (x = y))) w := by
  have := ev_equal 9998 x y w
  unfold evV at *
  rw [run_eql_struct, this]
  rfl
theorem ev_neq (x y : Ev) (w : World) : (binOp .neq 36 (evV x) (evV y)).run Tryz.prog w = .ok (.bool (!decide (x = y))) w := by
  have := ev_equal 9998 x y w
  unfold evV at *
  rw [run_neq_struct, this]
  rfl
end Go.Proofs.YtjdglpngcdcneaaGreat
