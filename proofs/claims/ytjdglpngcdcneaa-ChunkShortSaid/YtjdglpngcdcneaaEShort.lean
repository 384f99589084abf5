/- Layer 21: an event so often on end (plain). -/
import Derived.Test.YtjdglpngcdcneaaEArg
namespace Go.Proofs.Ytjdglpngcdcneaa
open Go.RowKit Go.WideShapes
set_option linter.unusedVariables false
set_option linter.unusedSimpArgs false
set_option linter.unusedSectionVars false
theorem rbl_rep (m v : Nat) (hv : v < 128) (hm : 1 ≤ m) (hm2 : m ≤ 16384) : (rbl (pk (List.replicate m v))).length ≤ 4 := by
  obtain ⟨c, rfl⟩ : ∃ c, m = c + 1 := ⟨m - 1, by omega⟩
  have e : pk (List.replicate (c + 1) v) = [(v, c + 1)] := fold_rep [] v (fun r h => by cases h) c
  rw [e]
  have h1 := vb_len_le 0 v hv
  have h2 := vb_len_le 1 c (by omega)
  simp [rbl, rbs, vb_small]
  omega
theorem rep_get (m : Nat) (e : Ev) (i : Nat) (h : i < m) : (List.replicate m e).getD i default = e := by simp [h]
theorem part_rep (m : Nat) (e : Ev) (at' : List Nat) (hin : ∀ i ∈ at', i < m) (P : Int → Bool) (V : Ev → Nat) : part (List.replicate m e) at' P V = if P e.kd then List.replicate at'.length (V e) else [] := by
  induction at' with
  | nil => simp [part]
  | cons i at' ih =>
    have h1 := rep_get m e i (hin i List.mem_cons_self)
    have h2 := ih (fun j hj => hin j (List.mem_cons_of_mem _ hj))
    unfold part at *
    rw [List.filter_cons, h1]
    split
    · rename_i c
      rw [if_pos c] at h2
      rw [List.map_cons, h1, h2]
      rfl
    · rename_i c
      rw [if_neg c] at h2
      rw [h2]
theorem ofE_rep (m : Nat) (e : Ev) (t : Int) : ofE (List.replicate m e) t = if e.th = t then List.range m else [] := by
  unfold ofE ofK
  rw [List.length_replicate]
  split
  · rename_i c
    rw [List.filter_eq_self]
    intro i hi
    rw [List.mem_range] at hi
    rw [rep_get m e i hi]; exact decide_eq_true c
  · rename_i c
    rw [List.filter_eq_nil_iff]
    intro i hi
    rw [List.mem_range] at hi
    rw [rep_get m e i hi, decide_eq_true_eq]; exact c
theorem vb_zero_len : (vb 0).length = 1 := by simp [vb_small]
theorem layE_rep (m : Nat) (e : Ev) (hr : rightE e) (ht : tickB e.kd = false) (hv : valB e.kd = false) (hm : 1 ≤ m) (hm2 : m ≤ 2000) : (layE (List.replicate m e) (List.range m)).length ≤ 10 := by
  have hin : ∀ i ∈ List.range m, i < m := fun i hi => List.mem_range.1 hi
  unfold layE
  rw [part_rep m e _ hin, part_rep m e _ hin, part_rep m e _ hin, part_rep m e _ hin, P1_eq, P2_eq, P3_eq, ht, hv, List.length_range]
  have hk := right_kd hr
  have hg := right_rg hr
  have h0 := rbl_rep m (V0 e) (by omega) hm (by omega)
  have h1 := rbl_rep m (V1 e) (by omega) hm (by omega)
  have z1 : (rbl (pk [])).length = 1 := by simp [rbl, rbs, pk, vb_small]
  have z2 : (dbl []).length = 1 := by simp [dbl, vbl, vbs, deltas, vb_small]
  simp only [List.length_append, P0, if_true]
  have h2 : (rbl (pk (if ringB e.kd = true then List.replicate m (V1 e) else []))).length ≤ 4 := by
    split
    · exact h1
    · omega
  simp only [Bool.false_eq_true, if_false]
  omega
theorem lays_rep (m : Nat) (e : Ev) (hr : rightE e) (ht : tickB e.kd = false) (hv : valB e.kd = false) (hm : 1 ≤ m) (hm2 : m ≤ 2000) : ∀ t : Nat, (lays (List.replicate m e) t).length ≤ if e.th < (t : Int) then 10 else 0
  | 0 => by simp [lays]
  | t + 1 => by
    have ih := lays_rep m e hr ht hv hm hm2 t
    rw [lays_succ, ofE_rep]
    by_cases c : e.th = (t : Int)
    · rw [if_pos c, List.length_range, if_neg (by omega), if_pos (by omega), List.length_append]
      rw [if_neg (by omega)] at ih
      have := layE_rep m e hr ht hv hm hm2
      omega
    · rw [if_neg c, List.length_nil, if_pos rfl, List.append_nil]
      refine Nat.le_trans ih ?_
      by_cases c2 : e.th < (t : Int)
      · rw [if_pos c2, if_pos (by omega)]; exact Nat.le_refl _
      · rw [if_neg c2]; omega
theorem streams_rep (m : Nat) (e : Ev) (hr : rightE e) (ht : tickB e.kd = false) (hv : valB e.kd = false) (hm : 1 ≤ m) (hm2 : m ≤ 2000) : (streamsP (List.replicate m e)).length ≤ 40 := by
  rw [streams_eq, List.length_append]
  have h1 := lays_rep m e hr ht hv hm hm2 8
  have h2 := rbl_rep m e.th.toNat (by have := hr.2.2.2.1; omega) hm (by omega)
  have e1 : thr (List.replicate m e) = List.replicate m e.th.toNat := by simp [thr]
  rw [e1]
  have : (if e.th < ((8 : Nat) : Int) then 10 else 0) ≤ 10 := by split <;> omega
  omega
theorem check_rep (m : Nat) (e : Ev) (hr : rightE e) (hm2 : m ≤ 2000) : checkE (List.replicate m e) = (0, 0) := by
  rw [check_ok, List.length_replicate]
  exact ⟨by omega, fun i hi => by rw [rep_get m e i hi]; exact hr⟩
def repTo (m : Nat) (e : Ev) (i : Nat) : List Ev := List.replicate i e ++ List.replicate (m - i) zeroEv
theorem repTo_len (m : Nat) (e : Ev) (i : Nat) (h : i ≤ m) : (repTo m e i).length = m := by simp [repTo]; omega
theorem repTo_zero (m : Nat) (e : Ev) : repTo m e 0 = List.replicate m zeroEv := by simp [repTo]
theorem repTo_all (m : Nat) (e : Ev) : repTo m e m = List.replicate m e := by simp [repTo]
theorem repTo_succ (m : Nat) (e : Ev) (i : Nat) (h : i < m) : (repTo m e i).set i e = repTo m e (i + 1) := by
  unfold repTo
  rw [List.set_append_right _ _ (by simp), List.length_replicate, Nat.sub_self, show m - i = (m - (i + 1)) + 1 by omega, List.replicate_succ, List.set_cons_zero, List.replicate_succ', List.append_assoc]
  rfl
end Go.Proofs.Ytjdglpngcdcneaa
