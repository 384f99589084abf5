/- Layer 21: a thread's streams are read into its events (plain). -/
import Derived.Test.YtjdglpngcdcneaaGreatEFil
namespace Go.Proofs.YtjdglpngcdcneaaGreat
open Go.RowKit Go.WideShapes
set_option linter.unusedVariables false
set_option linter.unusedSimpArgs false
set_option linter.unusedSectionVars false
def inE (P : Int → Bool) (l : List Ev) (at' : List Nat) : List Nat := at'.filter fun i => P (l.getD i default).kd
theorem inE_take (P : Int → Bool) (l : List Ev) (at' : List Nat) (k : Nat) (h : k < at'.length) :
    inE P l (at'.take (k + 1)) = inE P l (at'.take k) ++ (if P (l.getD (at'.getD k 0) default).kd then [at'.getD k 0] else []) := by
  unfold inE
  rw [List.take_succ_eq_append_getElem h, List.filter_append, List.filter_cons]
  rw [show at'.getD k 0 = at'[k] by rw [List.getD_eq_getElem?_getD, List.getElem?_eq_getElem h]; rfl]
  split <;> simp
theorem inE_len (P : Int → Bool) (l : List Ev) (at' : List Nat) : (inE P l at').length ≤ at'.length := List.length_filter_le _ _
theorem inE_in (P : Int → Bool) (l : List Ev) (at' : List Nat) (n : Nat) (h : ∀ i, i < at'.length → at'.getD i 0 < n) : ∀ i, i < (inE P l at').length → (inE P l at').getD i 0 < n := fun i hi => by
  have h1 : (inE P l at').getD i 0 ∈ inE P l at' := by rw [List.getD_eq_getElem?_getD, List.getElem?_eq_getElem hi]; exact List.getElem_mem hi
  obtain ⟨k, hk, e2⟩ := List.mem_iff_getElem.1 (List.mem_filter.1 h1).1
  have := h k hk
  rw [List.getD_eq_getElem?_getD, List.getElem?_eq_getElem hk, Option.getD_some, e2] at this
  exact this
def setAll (U : Ev → Nat → Ev) (l : List Ev) (ps : List (Nat × Nat)) : List Ev := ps.foldl (fun l p => l.set p.1 (U (l.getD p.1 default) p.2)) l
theorem setAll_snoc (U : Ev → Nat → Ev) (l : List Ev) (ps : List (Nat × Nat)) (p : Nat × Nat) : setAll U l (ps ++ [p]) = (setAll U l ps).set p.1 (U ((setAll U l ps).getD p.1 default) p.2) := by
  simp [setAll]
theorem setAll_len (U : Ev → Nat → Ev) (l : List Ev) (ps : List (Nat × Nat)) : (setAll U l ps).length = l.length := by
  induction ps generalizing l with
  | nil => rfl
  | cons p ps ih => unfold setAll at *; rw [List.foldl_cons, ih, List.length_set]
def setK (U : Ev → Nat → Ev) (l : List Ev) (is ns : List Nat) (k : Nat) : List Ev := setAll U l ((is.zip ns).take k)
theorem setK_zero (U : Ev → Nat → Ev) (l : List Ev) (is ns : List Nat) : setK U l is ns 0 = l := rfl
theorem setK_succ (U : Ev → Nat → Ev) (l : List Ev) (is ns : List Nat) (k : Nat) (h1 : k < is.length) (h2 : k < ns.length) :
    setK U l is ns (k + 1) = (setK U l is ns k).set (is.getD k 0) (U ((setK U l is ns k).getD (is.getD k 0) default) (ns.getD k 0)) := by
  unfold setK
  rw [List.take_succ_eq_append_getElem (by rw [List.length_zip]; omega), setAll_snoc, List.getElem_zip]
  simp [h1, h2]
theorem setK_all (U : Ev → Nat → Ev) (l : List Ev) (is ns : List Nat) (m : Nat) (h : is.length = m) : setK U l is ns m = setAll U l (is.zip ns) := by
  unfold setK
  rw [List.take_of_length_le (by rw [List.length_zip]; omega)]
theorem setK_len (U : Ev → Nat → Ev) (l : List Ev) (is ns : List Nat) (k : Nat) : (setK U l is ns k).length = l.length := setAll_len U l _
def VLok (l : List Ev) : Prop := ∀ i, (l.getD i default).vl < 18446744073709551616
theorem VLok.set {l : List Ev} (h : VLok l) (i : Nat) (e : Ev) (he : e.vl < 18446744073709551616) : VLok (l.set i e) := fun j => by
  rw [List.getD_eq_getElem?_getD, List.getElem?_set]
  by_cases c : i = j
  · rw [if_pos c]
    split
    · exact he
    · simp [default, instInhabitedEv.default]
  · rw [if_neg c, ← List.getD_eq_getElem?_getD]; exact h j
def stepF (x : Strm) (L : List UInt8) (at' : List Nat) (s : List Ev × Nat) : Option (List Ev × Nat) :=
  if (x.R L s.2 (inE x.P s.1 at').length).2.1 = 0 ∧ (x.R L s.2 (inE x.P s.1 at').length).1.length = (inE x.P s.1 at').length
  then some (setAll x.U s.1 ((inE x.P s.1 at').zip (x.R L s.2 (inE x.P s.1 at').length).1), (x.R L s.2 (inE x.P s.1 at').length).2.2) else none
def fillJ (L : List UInt8) (at' : List Nat) : Nat → List Ev × Nat → Option (List Ev × Nat)
  | 0, s => some s
  | j + 1, s => (fillJ L at' j s).bind (stepF (strm 0 0 0 j) L at')
theorem fillJ_none (L : List UInt8) (at' : List Nat) (j : Nat) (s : List Ev × Nat) (h : fillJ L at' j s = none) (hj : j ≤ 4) : fillJ L at' 4 s = none := by
  have : ∀ d, fillJ L at' (j + d) s = none := fun d => by
    induction d with
    | zero => exact h
    | succ d ih => rw [← Nat.add_assoc, fillJ, ih]; rfl
  have := this (4 - j)
  rwa [show j + (4 - j) = 4 by omega] at this
theorem stepF_strm (b1 b2 b3 j : Nat) : stepF (strm b1 b2 b3 j) = stepF (strm 0 0 0 j) := by
  match j with
  | 0 | 1 | 2 | (n + 3) => rfl
end Go.Proofs.YtjdglpngcdcneaaGreat
