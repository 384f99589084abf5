/- Layer 21: how long the streams may be (plain). -/
import Derived.Test.YtjdglpngcdcneaaGreatELay
namespace Go.Proofs.YtjdglpngcdcneaaGreat
open Go.RowKit Go.WideShapes
set_option linter.unusedVariables false
set_option linter.unusedSimpArgs false
set_option linter.unusedSectionVars false
def AllE (l : List Ev) : Prop := ∀ i, i < l.length → rightE (l.getD i default) ∧ (l.getD i default).vl < 18446744073709551616
theorem part_lt (l : List Ev) (at' : List Nat) (P : Int → Bool) (V : Ev → Nat) (h : AllE l) (hin : ∀ i, i < at'.length → at'.getD i 0 < l.length) (hv : ∀ e, rightE e → e.vl < 18446744073709551616 → V e < 18446744073709551616) : AllLt (part l at' P V) := fun i hi => by
  have h1 : (part l at' P V).getD i 0 ∈ part l at' P V := by rw [List.getD_eq_getElem?_getD, List.getElem?_eq_getElem hi]; exact List.getElem_mem hi
  obtain ⟨a, ha, e⟩ := List.mem_map.1 h1
  obtain ⟨k, hk, e2⟩ := List.mem_iff_getElem.1 (List.mem_filter.1 ha).1
  have h2 := hin k hk
  rw [List.getD_eq_getElem?_getD, List.getElem?_eq_getElem hk, Option.getD_some, e2] at h2
  rw [← e]
  exact hv _ (h a h2).1 (h a h2).2
theorem layE_len (l : List Ev) (at' : List Nat) (h : AllE l) (hin : ∀ i, i < at'.length → at'.getD i 0 < l.length) (hm : at'.length ≤ 65536) : (layE l at').length ≤ 40 + 52 * at'.length := by
  have p0 := part_len l at' P0 V0
  have p1 := part_len l at' P1 V1
  have p2 := part_len l at' P2 V2
  have p3 := part_len l at' P3 V3
  have b0 := rbl_short _ (part_lt l at' P0 V0 h hin (fun e h _ => by have := right_kd h; omega)) (by omega)
  have b1 := rbl_short _ (part_lt l at' P1 V1 h hin (fun e h _ => by have := right_rg h; omega)) (by omega)
  have b2 := dbl_short _ (part_lt l at' P2 V2 h hin (fun e h _ => by have := h.2.2.2.2.2.2; show e.tk < _; omega)) (by omega)
  have b3 := dbl_short _ (part_lt l at' P3 V3 h hin (fun e h hv => hv)) (by omega)
  unfold layE
  simp only [List.length_append]
  omega
theorem ofE_in (l : List Ev) (t : Int) : ∀ i, i < (ofE l t).length → (ofE l t).getD i 0 < l.length := fun i hi => by
  have h1 : (ofE l t).getD i 0 ∈ ofE l t := by rw [List.getD_eq_getElem?_getD, List.getElem?_eq_getElem hi]; exact List.getElem_mem hi
  unfold ofE ofK at h1
  exact List.mem_range.1 (List.mem_filter.1 h1).1
/-- the first t threads' bytes -/
def lays (l : List Ev) (t : Nat) : List UInt8 := (List.range t).flatMap fun (t : Nat) => if (ofE l (t : Int)).length = 0 then [] else layE l (ofE l (t : Int))
theorem lays_succ (l : List Ev) (t : Nat) : lays l (t + 1) = lays l t ++ (if (ofE l (t : Int)).length = 0 then [] else layE l (ofE l (t : Int))) := by
  simp [lays, List.range_succ]
def cntE (l : List Ev) (t : Nat) : Nat := ((List.range l.length).filter fun j => decide (0 ≤ (l.getD j default).th ∧ (l.getD j default).th < (t : Int))).length
theorem filter_split {α : Type} (P Q R : α → Bool) (l : List α) (h : ∀ x, R x = (P x || Q x)) (h2 : ∀ x, ¬ (P x = true ∧ Q x = true)) : (l.filter R).length = (l.filter P).length + (l.filter Q).length := by
  induction l with
  | nil => rfl
  | cons x l ih =>
    have := h x
    have := h2 x
    simp only [List.filter_cons]
    cases hp : P x <;> cases hq : Q x <;> simp_all <;> omega
theorem cntE_succ (l : List Ev) (t : Nat) : cntE l (t + 1) = cntE l t + (ofE l (t : Int)).length := by
  unfold cntE ofE ofK
  refine filter_split _ _ _ _ (fun x => ?_) (fun x => ?_)
  · rw [Bool.eq_iff_iff]; simp only [Bool.or_eq_true, decide_eq_true_eq]; omega
  · simp only [decide_eq_true_eq]; omega
theorem cntE_le (l : List Ev) (t : Nat) : cntE l t ≤ l.length := by
  unfold cntE
  exact Nat.le_trans (List.length_filter_le _ _) (by simp)
theorem lays_len (l : List Ev) (h : AllE l) (hl : l.length ≤ 65536) : ∀ t, (lays l t).length ≤ 40 * t + 52 * cntE l t
  | 0 => by simp [lays]
  | t + 1 => by
    have h1 := lays_len l h hl t
    have h2 := layE_len l (ofE l (t : Int)) h (ofE_in l _) (Nat.le_trans (ofK_len l _ _) hl)
    rw [lays_succ, cntE_succ, List.length_append]
    split
    · simp; omega
    · omega
def thr (l : List Ev) : List Nat := l.map fun e => e.th.toNat
theorem thr_to (l : List Ev) (n : Nat) (hn : l.length = n) : mapTo (fun i => (l.getD i default).th.toNat) n n = thr l := by
  rw [mapTo_all]
  subst hn
  apply List.ext_getElem
  · simp [thr]
  · intro i h1 h2
    simp [thr] at h1 h2 ⊢
    simp [h2]
theorem thr_len (l : List Ev) : (thr l).length = l.length := by simp [thr]
theorem thr_lt (l : List Ev) (h : AllE l) : AllLt (thr l) := fun i hi => by
  rw [thr_len] at hi
  have := (h i hi).1.2.2.2.1
  simp [thr, hi] at this ⊢
  omega
theorem pk_val (l : List Nat) (c : Nat) (h : ∀ v ∈ l, v < c) : ∀ i, i < (pk l).length → ((pk l).getD i (0, 0)).1 < c := fun i hi => by
  have h1 := okR_count (pk l) (ok_pk l) i hi
  rw [List.getD_eq_getElem?_getD, List.getElem?_eq_getElem hi, Option.getD_some] at h1 ⊢
  have hin : ((pk l)[i]).1 ∈ expand (pk l) := List.mem_flatMap.2 ⟨_, List.getElem_mem hi, by rw [List.mem_replicate]; exact ⟨by omega, rfl⟩⟩
  rw [expand_pk] at hin
  exact h _ hin
theorem rbs_short1 (p : List Rn) (ha : ∀ i, i < p.length → (p.getD i (0, 0)).1 < 128 ∧ (p.getD i (0, 0)).2 ≤ 2097152) : (rbs p).length ≤ 4 * p.length := by
  have : ∀ k, k ≤ p.length → (rbs (p.take k)).length ≤ 4 * k := by
    intro k
    induction k with
    | zero => intro _; simp [rbs]
    | succ k ih =>
      intro hk
      have h1 := ha k (by omega)
      have h2 := vb_len_le 0 _ h1.1
      have h3 := vb_len_le 2 ((p.getD k (0, 0)).2 - 1) (by omega)
      have := ih (by omega)
      rw [rbs_take p k (by omega), List.length_append, List.length_append]; omega
  have := this p.length (Nat.le_refl _)
  rwa [List.take_length] at this
theorem thr_short (l : List Ev) (h : AllE l) (hl : l.length ≤ 65536) : (rbl (pk (thr l))).length ≤ 10 + 4 * l.length := by
  have h1 := len_le_expand (pk (thr l)) (ok_pk (thr l))
  rw [expand_pk, thr_len] at h1
  have h2 := rbs_short1 (pk (thr l)) (fun i hi => ⟨pk_val (thr l) 128 (fun v hv => ?_) i hi, by have := expand_count (pk (thr l)) i hi; rw [expand_pk, thr_len] at this; omega⟩)
  · have h3 := vb_len10 (pk (thr l)).length (by omega)
    rw [rbl, List.length_append]; omega
  · obtain ⟨e, he, rfl⟩ := List.mem_map.1 hv
    obtain ⟨j, hj, rfl⟩ := List.mem_iff_getElem.1 he
    have := (h j hj).1.2.2.2.1
    rw [List.getD_eq_getElem?_getD, List.getElem?_eq_getElem hj, Option.getD_some] at this
    omega
theorem streams_eq (l : List Ev) : streamsP l = rbl (pk (thr l)) ++ lays l 8 := rfl
theorem streams_len (l : List Ev) (h : AllE l) (hl : l.length ≤ 65536) : (streamsP l).length ≤ 330 + 56 * l.length := by
  have h1 := thr_short l h hl
  have h2 := lays_len l h hl 8
  have h3 := cntE_le l 8
  rw [streams_eq, List.length_append]; omega
end Go.Proofs.YtjdglpngcdcneaaGreat
