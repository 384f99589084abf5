/- A whole element is written into an own row. -/
import Derived.Test.YtclhmlgbhlmekaaFlat
import Derived.Laws.IdiomCopy
namespace Go.Proofs.Ytclhmlgbhlmekaa
open Go.RowKit
set_option linter.unusedVariables false
set_option linter.unusedSimpArgs false
def setN : List Value → Nat → List Value → List Value
  | xs, _, [] => xs
  | xs, o, v :: r => setN (xs.set o v) (o + 1) r
theorem setN_eq : ∀ (vs xs : List Value) (o : Nat), o + vs.length ≤ xs.length → setN xs o vs = xs.take o ++ (vs ++ xs.drop (o + vs.length))
  | [], xs, o, h => by simp [setN]
  | v :: r, xs, o, h => by
    rw [List.length_cons] at h
    rw [setN, setN_eq r (xs.set o v) (o + 1) (by rw [List.length_set]; omega)]
    have e1 : (xs.set o v).take (o + 1) = xs.take o ++ [v] := by
      rw [List.take_succ_eq_append_getElem (by rw [List.length_set]; omega), List.getElem_set_self, List.take_set_of_le (Nat.le_refl _)]
    have e2 : (xs.set o v).drop (o + 1 + r.length) = xs.drop (o + (v :: r).length) := by
      rw [List.drop_set_of_lt (by omega), List.length_cons]; congr 1; omega
    rw [e1, e2]
    simp
section
variable {α : Type} [Inhabited α] {enc : α → List Value} {size : Nat}
theorem flat_take' (hk : ∀ x, (enc x).length = size) (l : List α) (i : Nat) (h : i ≤ l.length) : (l.flatMap enc).take (i * size) = (l.take i).flatMap enc := by
  conv => lhs; rw [← List.take_append_drop i l, List.flatMap_append]
  rw [List.take_left' (by rw [flat_len hk, List.length_take, Nat.min_eq_left h])]
theorem flat_drop' (hk : ∀ x, (enc x).length = size) (l : List α) (i : Nat) (h : i ≤ l.length) : (l.flatMap enc).drop (i * size) = (l.drop i).flatMap enc := by
  conv => lhs; rw [← List.take_append_drop i l, List.flatMap_append]
  rw [List.drop_left' (by rw [flat_len hk, List.length_take, Nat.min_eq_left h])]
theorem flat_set (hk : ∀ x, (enc x).length = size) (l : List α) (i : Nat) (h : i < l.length) (x : α) : setN (l.flatMap enc) (i * size) (enc x) = (l.set i x).flatMap enc := by
  have h2 : (i + 1) * size ≤ l.length * size := Nat.mul_le_mul_right _ h
  rw [Nat.succ_mul] at h2
  rw [setN_eq _ _ _ (by rw [hk, flat_len hk]; exact h2), flat_take' hk l i (by omega), hk, ← Nat.succ_mul, flat_drop' hk l (i + 1) (by omega), List.set_eq_take_append_cons_drop, if_pos h, List.flatMap_append, List.flatMap_cons]
end
section
variable {P : Program} {S : Nat → Prop} {W : World} {e : TypeId} {size g n cap : Nat} {L : List Thing}
theorem St.storedN : ∀ (vs : List Value) {w : World} {xs : List Value} (o : Nat), St S W w (ownT e size (.slice (some ⟨g, 0, none⟩) n cap) n xs :: L) → St S W (w.setCells g o vs) (ownT e size (.slice (some ⟨g, 0, none⟩) n cap) n (setN xs o vs) :: L)
  | [], w, xs, o, h => h
  | v :: r, w, xs, o, h => St.storedN r (o + 1) (h.stored o v)
theorem run_store_own {w : World} {xs : List Value} (h : Own w e size (.slice (some ⟨g, 0, none⟩) n cap) n xs) (t : TypeId) (u : Value) (seg : List Value) (o : Nat) (hu : u.cells.toList = seg) (ht : (P.info? t).map (·.size) = some seg.length)
    (hfit : o + seg.length ≤ n * size) (h1 : ∀ q ∈ seg, q.oneCell' = true) : (Instr.storeAt t (.pointer (some ⟨g, o, none⟩)) u).run P w = .ok () (w.setCells g o seg) := by
  obtain ⟨i, hi, hsz⟩ := Option.map_eq_some_iff.1 ht
  have hc : u.cells.size = i.size := by rw [hsz, ← hu, Array.length_toList]
  have hl := h.len
  have hst := run_storeCells_cells (P := P) g o seg 0 w (fun j hj => by rw [Nat.add_zero, Own.cell h (o + j) (by omega), List.getElem?_eq_getElem (by omega)]; rfl) (fun j _ => Own.free h _) h1
  simp only [Nat.add_zero] at hst
  simp [Instr.storeAt, Instr.sureAddr, storeVar, sizeOf, typeInfo, hi, hc, hu, hst]
/-- at a step of a region that draws its order -/
theorem step_store_own {ops : Array Oper} {o : Oper} {a : Act} {w : World} {K : Act → World → Prop} {Q : Exit → Act → World → Prop} {E : Prop} (hgd : o.guard = none) (t : TypeId) (p x : Operand) (ho : o.op = .store t p x)
    {xs : List Value} (h : St S W w (ownT e size (.slice (some ⟨g, 0, none⟩) n cap) n xs :: L)) (off : Nat) (hp : a.eval p = .pointer (some ⟨g, off, none⟩)) (seg : List Value) (hu : (a.eval x).cells.toList = seg) (ht : (P.info? t).map (·.size) = some seg.length)
    (hfit : off + seg.length ≤ n * size) (h1 : ∀ q ∈ seg, q.oneCell' = true)
    (hK : St S W (w.setCells g off seg) (ownT e size (.slice (some ⟨g, 0, none⟩) n cap) n (setN xs off seg) :: L) → K (a.put o.dst undef) (w.setCells g off seg)) :
    if Region.wanted o (yielded ops a.tmps) = true then Oper.wp P o a w K Q else E := by
  have hw : Region.wanted o (yielded ops a.tmps) = true := by simp [Region.wanted, hgd]
  rw [if_pos hw]
  have hrun := run_store_own (P := P) h.own t (a.eval x) seg off hu ht hfit h1
  unfold Oper.wp execOp
  simp only [ho, hp, Sem.run_bind, Sem.run_pure, Result.andThen_ok, hrun]
  exact hK (h.storedN seg off)
end
end Go.Proofs.Ytclhmlgbhlmekaa
