/- Rows of elements of several cells each. -/
import Derived.Test.YtclhmlgbhlmekaaHa
namespace Go.Proofs.Ytclhmlgbhlmekaa
open Go.RowKit
set_option linter.unusedVariables false
set_option linter.unusedSimpArgs false
section
variable {α : Type} [Inhabited α] {enc : α → List Value} {size : Nat}
theorem flat_len (hk : ∀ x, (enc x).length = size) (l : List α) : (l.flatMap enc).length = l.length * size := by
  induction l with
  | nil => simp
  | cons x l ih => rw [List.flatMap_cons, List.length_append, ih, hk, List.length_cons, Nat.succ_mul, Nat.add_comm]
theorem flat_get (hk : ∀ x, (enc x).length = size) (l : List α) (i : Nat) (h : i < l.length) (j : Nat) (hj : j < size) : (l.flatMap enc)[i * size + j]? = (enc (l.getD i default))[j]? := by
  induction l generalizing i with
  | nil => simp at h
  | cons x l ih =>
    rw [List.flatMap_cons]
    cases i with
    | zero => rw [Nat.zero_mul, Nat.zero_add, List.getElem?_append_left (by rw [hk]; exact hj)]; rfl
    | succ i =>
      rw [List.getElem?_append_right (by rw [hk, Nat.succ_mul]; omega), hk, show (i + 1) * size + j - size = i * size + j by rw [Nat.succ_mul]; omega, ih i (by simpa using h)]
      rfl
end
end Go.Proofs.Ytclhmlgbhlmekaa
