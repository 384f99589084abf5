/- Steps: plain. -/
import Derived.Test.YtkjnpjkfagdegaaVPure
namespace Go.Proofs.Ytkjnpjkfagdegaa
set_option linter.unusedVariables false
/-- a list of n: the first i by f, then nothing -/
def mapTo (f : Nat → Nat) (i n : Nat) : List Nat := (List.range i).map f ++ List.replicate (n - i) 0
theorem mapTo_len (f : Nat → Nat) (i n : Nat) (h : i ≤ n) : (mapTo f i n).length = n := by simp [mapTo]; omega
theorem mapTo_zero (f : Nat → Nat) (n : Nat) : mapTo f 0 n = List.replicate n 0 := by simp [mapTo]
theorem mapTo_all (f : Nat → Nat) (n : Nat) : mapTo f n n = (List.range n).map f := by simp [mapTo]
theorem mapTo_set (f : Nat → Nat) (i n : Nat) (h : i < n) : (mapTo f i n).set i (f i) = mapTo f (i + 1) n := by
  unfold mapTo
  rw [List.set_append_right _ _ (by simp), List.length_map, List.length_range, Nat.sub_self, show n - i = (n - (i + 1)) + 1 by omega, List.replicate_succ, List.set_cons_zero, List.range_succ, List.map_append, List.append_assoc]
  rfl
/-- the step from last to n -/
def dl (last n : Nat) : Nat := if (n + 18446744073709551616 - last) % 18446744073709551616 < 9223372036854775808 then 2 * ((n + 18446744073709551616 - last) % 18446744073709551616) else 2 * (18446744073709551616 - (n + 18446744073709551616 - last) % 18446744073709551616) - 1
/-- a step on from last -/
def sm (last u : Nat) : Nat := if u % 2 = 0 then (last + u / 2) % 18446744073709551616 else (last + 18446744073709551616 - u / 2 - 1) % 18446744073709551616
theorem dl_lt (last n : Nat) (h : last < 18446744073709551616) : dl last n < 18446744073709551616 := by unfold dl; split <;> omega
theorem sm_lt (last u : Nat) : sm last u < 18446744073709551616 := by unfold sm; split <;> omega
theorem sm_dl (last n : Nat) (h : last < 18446744073709551616) (hn : n < 18446744073709551616) : sm last (dl last n) = n := by
  unfold sm dl
  split <;> split <;> omega
theorem dl_sm (last u : Nat) (h : last < 18446744073709551616) (hu : u < 18446744073709551616) : dl last (sm last u) = u := by
  unfold sm dl
  split <;> split <;> omega
def prev (l : List Nat) (i : Nat) : Nat := if i = 0 then 0 else l.getD (i - 1) 0
theorem prev_succ (l : List Nat) (i : Nat) : prev l (i + 1) = l.getD i 0 := by simp [prev]
def stepAt (l : List Nat) (i : Nat) : Nat := dl (prev l i) (l.getD i 0)
def deltas (l : List Nat) : List Nat := (List.range l.length).map (stepAt l)
def sumTo (d : List Nat) : Nat → Nat
  | 0 => 0
  | i + 1 => sm (sumTo d i) (d.getD i 0)
def sums (d : List Nat) : List Nat := (List.range d.length).map fun i => sumTo d (i + 1)
theorem deltas_len (l : List Nat) : (deltas l).length = l.length := by simp [deltas]
theorem sums_len (l : List Nat) : (sums l).length = l.length := by simp [sums]
theorem map_range_get (f : Nat → Nat) (n i : Nat) (h : i < n) : ((List.range n).map f).getD i 0 = f i := by simp [h]
theorem deltas_get (l : List Nat) (i : Nat) (h : i < l.length) : (deltas l).getD i 0 = stepAt l i := map_range_get (stepAt l) l.length i h
theorem sums_get (l : List Nat) (i : Nat) (h : i < l.length) : (sums l).getD i 0 = sumTo l (i + 1) := map_range_get (fun i => sumTo l (i + 1)) l.length i h
theorem sumTo_lt (d : List Nat) : ∀ i, sumTo d i < 18446744073709551616
  | 0 => by simp [sumTo]
  | i + 1 => sm_lt _ _
def AllLt (l : List Nat) : Prop := ∀ i, i < l.length → l.getD i 0 < 18446744073709551616
theorem prev_lt (l : List Nat) (h : AllLt l) (i : Nat) (hi : i ≤ l.length) : prev l i < 18446744073709551616 := by
  cases i with
  | zero => simp [prev]
  | succ i => rw [prev_succ]; exact h i (by omega)
theorem deltas_lt (l : List Nat) (h : AllLt l) : AllLt (deltas l) := fun i hi => by
  rw [deltas_len] at hi
  rw [deltas_get l i hi]
  exact dl_lt _ _ (prev_lt l h i (by omega))
theorem sums_lt (l : List Nat) : AllLt (sums l) := fun i hi => by
  rw [sums_len] at hi
  rw [sums_get l i hi]
  exact sumTo_lt _ _
theorem ext_getD {l m : List Nat} (hl : l.length = m.length) (h : ∀ i, i < l.length → l.getD i 0 = m.getD i 0) : l = m := by
  apply List.ext_getElem hl
  intro i h1 h2
  have := h i h1
  rw [List.getD_eq_getElem?_getD, List.getD_eq_getElem?_getD, List.getElem?_eq_getElem h1, List.getElem?_eq_getElem h2] at this
  exact this
theorem sums_deltas (l : List Nat) (h : AllLt l) : sums (deltas l) = l := by
  have key : ∀ i, i ≤ l.length → sumTo (deltas l) i = prev l i := by
    intro i
    induction i with
    | zero => intro _; simp [sumTo, prev]
    | succ i ih =>
      intro hi
      rw [sumTo, ih (by omega), deltas_get l i (by omega), prev_succ]
      exact sm_dl _ _ (prev_lt l h i (by omega)) (h i (by omega))
  apply ext_getD (by rw [sums_len, deltas_len])
  intro i hi
  rw [sums_len, deltas_len] at hi
  rw [sums_get _ _ (by rw [deltas_len]; exact hi), key (i + 1) (by omega), prev_succ]
theorem deltas_sums (d : List Nat) (h : AllLt d) : deltas (sums d) = d := by
  apply ext_getD (by rw [deltas_len, sums_len])
  intro i hi
  rw [deltas_len, sums_len] at hi
  rw [deltas_get _ _ (by rw [sums_len]; exact hi)]
  unfold stepAt
  rw [sums_get _ _ hi]
  have hp : prev (sums d) i = sumTo d i := by
    cases i with
    | zero => simp [prev, sumTo]
    | succ i => rw [prev_succ, sums_get _ _ (by omega)]
  rw [hp, sumTo]
  exact dl_sm _ _ (sumTo_lt d i) (h i hi)
/-- all numbers' bytes -/
def vbs (l : List Nat) : List UInt8 := l.flatMap vb
def vbl (l : List Nat) : List UInt8 := vb l.length ++ vbs l
theorem vbs_snoc (l : List Nat) (n : Nat) : vbs (l ++ [n]) = vbs l ++ vb n := by simp [vbs]
theorem vbs_len_le (l : List Nat) (h : AllLt l) : (vbs l).length ≤ 10 * l.length := by
  have : ∀ k, k ≤ l.length → (vbs (l.take k)).length ≤ 10 * k := by
    intro k
    induction k with
    | zero => intro _; simp [vbs]
    | succ k ih =>
      intro hk
      have h1 : l.take (k + 1) = l.take k ++ [l.getD k 0] := by
        rw [List.take_succ_eq_append_getElem (by omega), List.getD_eq_getElem?_getD, List.getElem?_eq_getElem (by omega)]; rfl
      have := vb_len10 _ (h k (by omega))
      rw [h1, vbs_snoc, List.length_append]
      have := ih (by omega)
      omega
  have := this l.length (Nat.le_refl _)
  rwa [List.take_length] at this
end Go.Proofs.Ytkjnpjkfagdegaa
