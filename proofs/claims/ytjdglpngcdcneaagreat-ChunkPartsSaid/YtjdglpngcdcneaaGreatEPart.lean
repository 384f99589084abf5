/- Layer 21: a thread's parts (plain). -/
import Derived.Test.YtjdglpngcdcneaaGreatEStr
namespace Go.Proofs.YtjdglpngcdcneaaGreat
open Go.RowKit Go.WideShapes
set_option linter.unusedVariables false
set_option linter.unusedSimpArgs false
set_option linter.unusedSectionVars false
def part (l : List Ev) (at' : List Nat) (P : Int → Bool) (V : Ev → Nat) : List Nat := (at'.filter fun i => P (l.getD i default).kd).map fun i => V (l.getD i default)
def P0 : Int → Bool := fun _ => true
def P1 : Int → Bool := fun k => decide (rightE ⟨0, k, 1, 0, 0⟩)
def P2 : Int → Bool := fun k => decide (rightE ⟨0, k, 0, 1, 0⟩)
def P3 : Int → Bool := fun k => decide (rightE ⟨0, k, 0, 0, 1⟩)
def V0 : Ev → Nat := fun e => e.kd.toNat
def V1 : Ev → Nat := fun e => e.rg.toNat
def V2 : Ev → Nat := fun e => e.tk
def V3 : Ev → Nat := fun e => e.vl
theorem P1_eq (k : Int) : P1 k = ringB k := by
  unfold P1 ringB
  rw [decide_eq_decide]
  unfold rightE bareE
  constructor
  · intro h
    have h2 := congrArg Ev.rg h.2.1
    dsimp only at h2
    by_cases c : ringB k = true
    · unfold ringB at c; exact of_decide_eq_true c
    · rw [if_neg c] at h2; exact absurd h2 (by decide)
  · intro h
    have c : ringB k = true := by unfold ringB; exact decide_eq_true h
    refine ⟨by dsimp only; omega, ?_, by simp, by simp, by simp, by simp, by simp⟩
    dsimp only
    rw [if_pos c]
    simp
theorem P2_eq (k : Int) : P2 k = tickB k := by
  unfold P2 tickB
  rw [decide_eq_decide]
  unfold rightE bareE
  constructor
  · intro h
    have h2 := congrArg Ev.tk h.2.1
    dsimp only at h2
    by_cases c : tickB k = true
    · unfold tickB at c; exact of_decide_eq_true c
    · rw [if_neg c] at h2; exact absurd h2 (by decide)
  · intro h
    have c : tickB k = true := by unfold tickB; exact decide_eq_true h
    refine ⟨by dsimp only; omega, ?_, by simp, by simp, by simp, by simp, by simp⟩
    dsimp only
    rw [if_pos c]
    simp
theorem P3_eq (k : Int) : P3 k = valB k := by
  unfold P3 valB
  rw [decide_eq_decide]
  unfold rightE bareE
  constructor
  · intro h
    have h2 := congrArg Ev.vl h.2.1
    dsimp only at h2
    by_cases c : valB k = true
    · unfold valB at c; exact of_decide_eq_true c
    · rw [if_neg c] at h2; exact absurd h2 (by decide)
  · intro h
    have c : valB k = true := by unfold valB; exact decide_eq_true h
    refine ⟨by dsimp only; omega, ?_, by simp, by simp, by simp, by simp, by simp⟩
    dsimp only
    rw [if_pos c]
    simp
theorem part_take (l : List Ev) (at' : List Nat) (P : Int → Bool) (V : Ev → Nat) (k : Nat) (h : k < at'.length) :
    part l (at'.take (k + 1)) P V = part l (at'.take k) P V ++ (if P (l.getD (at'.getD k 0) default).kd then [V (l.getD (at'.getD k 0) default)] else []) := by
  unfold part
  rw [List.take_succ_eq_append_getElem h, List.filter_append, List.map_append, List.filter_cons]
  rw [show at'.getD k 0 = at'[k] by rw [List.getD_eq_getElem?_getD, List.getElem?_eq_getElem h]; rfl]
  split <;> simp
theorem part_len (l : List Ev) (at' : List Nat) (P : Int → Bool) (V : Ev → Nat) : (part l at' P V).length ≤ at'.length := by
  unfold part
  rw [List.length_map]
  exact List.length_filter_le _ _
def dbl (l : List Nat) : List UInt8 := vbl (deltas l)
def layE (l : List Ev) (at' : List Nat) : List UInt8 := rbl (pk (part l at' P0 V0)) ++ rbl (pk (part l at' P1 V1)) ++ dbl (part l at' P2 V2) ++ dbl (part l at' P3 V3)
/-- the streams, not yet packed -/
def streamsP (l : List Ev) : List UInt8 := rbl (pk (l.map fun e => e.th.toNat)) ++ (List.range 8).flatMap fun (t : Nat) => if (ofE l (t : Int)).length = 0 then [] else layE l (ofE l (t : Int))
end Go.Proofs.YtjdglpngcdcneaaGreat
