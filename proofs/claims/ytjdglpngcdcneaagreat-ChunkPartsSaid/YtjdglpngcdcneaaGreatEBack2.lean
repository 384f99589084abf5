/- Layer 21: what is printed is read as it was: a thread (plain). -/
import Derived.Test.YtjdglpngcdcneaaGreatEBack1
namespace Go.Proofs.YtjdglpngcdcneaaGreat
open Go.RowKit Go.WideShapes
set_option linter.unusedVariables false
set_option linter.unusedSimpArgs false
set_option linter.unusedSectionVars false
/-- an event's first j fields -/
def cutE (j : Nat) (e : Ev) : Ev := ⟨e.th, if 0 < j then e.kd else 0, if 1 < j then e.rg else 0, if 2 < j then e.tk else 0, if 3 < j then e.vl else 0⟩
theorem cutE_4 (e : Ev) : cutE 4 e = e := rfl
/-- threads below t are read, thread t's first j fields -/
def stE (t j : Nat) (e : Ev) : Ev := if e.th < (t : Int) then e else if e.th = (t : Int) then cutE j e else cutE 0 e
theorem stE_next (t : Nat) (e : Ev) : stE t 4 e = stE (t + 1) 0 e := by
  unfold stE
  rw [cutE_4]
  by_cases h1 : e.th < (t : Int)
  · rw [if_pos h1, if_pos (by omega)]
  · rw [if_neg h1]
    by_cases h2 : e.th = (t : Int)
    · rw [if_pos h2, if_pos (by omega)]
    · rw [if_neg h2, if_neg (by omega)]
      split <;> rfl
theorem stE_th (t j : Nat) (e : Ev) : (stE t j e).th = e.th := by
  unfold stE
  split
  · rfl
  · split <;> rfl
theorem stE_no (t j : Nat) (e : Ev) (h : e.th ≠ (t : Int)) : stE t j e = stE t 0 e := by
  unfold stE
  rw [if_neg h, if_neg h]
theorem stE_yes (t j : Nat) (e : Ev) (h : e.th = (t : Int)) : stE t j e = cutE j e := by
  unfold stE
  rw [if_neg (by omega), if_pos h]
theorem zip_map_self (f : Nat → Nat) : ∀ l : List Nat, l.zip (l.map f) = l.map fun i => (i, f i)
  | [] => rfl
  | i :: l => by rw [List.map_cons, List.zip_cons_cons, zip_map_self f l]; rfl
theorem setAll_get (U : Ev → Nat → Ev) (f : Nat → Nat) : ∀ (is : List Nat) (l : List Ev), is.Nodup → (∀ i ∈ is, i < l.length) → ∀ k,
    (setAll U l (is.map fun i => (i, f i))).getD k default = if k ∈ is then U (l.getD k default) (f k) else l.getD k default
  | [], l, _, _, k => by simp [setAll]
  | i :: is, l, hn, hl, k => by
    have hn2 := List.nodup_cons.1 hn
    have e : setAll U l ((i :: is).map fun i => (i, f i)) = setAll U (l.set i (U (l.getD i default) (f i))) (is.map fun i => (i, f i)) := rfl
    rw [e, setAll_get U f is _ hn2.2 (fun j hj => by rw [List.length_set]; exact hl j (List.mem_cons_of_mem _ hj)) k]
    have hi := hl i List.mem_cons_self
    by_cases h1 : k = i
    · subst h1
      rw [if_neg hn2.1, if_pos List.mem_cons_self, List.getD_eq_getElem?_getD, List.getElem?_set_self hi]
      rfl
    · have h2 : (l.set i (U (l.getD i default) (f i))).getD k default = l.getD k default := by
        rw [List.getD_eq_getElem?_getD, List.getElem?_set_ne (fun q => h1 q.symm), ← List.getD_eq_getElem?_getD]
      rw [h2]
      by_cases h3 : k ∈ is
      · rw [if_pos h3, if_pos (List.mem_cons_of_mem _ h3)]
      · rw [if_neg h3, if_neg (fun q => by rcases List.mem_cons.1 q with q | q; exact h1 q; exact h3 q)]
theorem getD_map (l : List Ev) (f : Ev → Ev) (k : Nat) (h : k < l.length) : (l.map f).getD k default = f (l.getD k default) := by
  simp [h]
theorem ofE_mem (l : List Ev) (t : Int) (i : Nat) : i ∈ ofE l t ↔ i < l.length ∧ (l.getD i default).th = t := by
  unfold ofE ofK
  rw [List.mem_filter, List.mem_range, decide_eq_true_eq]
theorem ofE_nodup (l : List Ev) (t : Int) : (ofE l t).Nodup := by
  unfold ofE ofK
  exact List.filter_sublist.nodup List.nodup_range
theorem smallN_lt1 (n : Nat) (h : n < 1024) : smallN n = n := by unfold smallN; rw [if_pos h]
/-- what the j-th stream does to an event that may be -/
theorem strm_cut (j : Nat) (hj : j < 4) (e : Ev) (h : rightE e) :
    (j ≠ 0 → (cutE j e).kd = e.kd) ∧ (if (strm 0 0 0 j).P (cutE j e).kd then (strm 0 0 0 j).U (cutE j e) ((strm 0 0 0 j).V e) else cutE j e) = cutE (j + 1) e ∧ ((strm 0 0 0 j).P (cutE j e).kd = (strm 0 0 0 j).P e.kd) := by
  obtain ⟨th, kd, rg, tk, vl⟩ := e
  have hk := right_kd h
  have hr := right_rg h
  have hb := h.2.1
  unfold bareE at hb
  rw [Ev.mk.injEq] at hb
  dsimp only at hb hk hr
  have hks := smallN_lt1 (V0 ⟨th, kd, rg, tk, vl⟩) (by omega)
  have hrs := smallN_lt1 (V1 ⟨th, kd, rg, tk, vl⟩) (by omega)
  match j, hj with
  | 0, _ =>
    refine ⟨fun q => absurd rfl q, ?_, rfl⟩
    show (⟨th, ((smallN (V0 ⟨th, kd, rg, tk, vl⟩) : Nat) : Int), 0, 0, 0⟩ : Ev) = ⟨th, kd, 0, 0, 0⟩
    rw [hks, ← hk.1]
  | 1, _ =>
    refine ⟨fun _ => rfl, ?_, rfl⟩
    show (if P1 kd then (⟨th, kd, ((smallN (V1 ⟨th, kd, rg, tk, vl⟩) : Nat) : Int), 0, 0⟩ : Ev) else ⟨th, kd, 0, 0, 0⟩) = ⟨th, kd, rg, 0, 0⟩
    rw [hrs, ← hr.1, P1_eq]
    split
    · rfl
    · rename_i c
      have := hb.2.2.1
      rw [if_neg c] at this
      rw [this]
  | 2, _ =>
    refine ⟨fun _ => rfl, ?_, rfl⟩
    show (if P2 kd then (⟨th, kd, rg, tk, 0⟩ : Ev) else ⟨th, kd, rg, 0, 0⟩) = ⟨th, kd, rg, tk, 0⟩
    rw [P2_eq]
    split
    · rfl
    · rename_i c
      have := hb.2.2.2.1
      rw [if_neg c] at this
      rw [this]
  | 3, _ =>
    refine ⟨fun _ => rfl, ?_, rfl⟩
    show (if P3 kd then (⟨th, kd, rg, tk, vl⟩ : Ev) else ⟨th, kd, rg, tk, 0⟩) = ⟨th, kd, rg, tk, vl⟩
    rw [P3_eq]
    split
    · rfl
    · rename_i c
      have := hb.2.2.2.2
      rw [if_neg c] at this
      rw [this]
end Go.Proofs.YtjdglpngcdcneaaGreat
