/- Texts of this work, put together: HHeap, Flat, Rowst, HLess, HTree, HSwap, HFace, HDown, HUp, HPop, HLeast, HTake. -/
import Derived.Test.YtjdglpngcdcneaaGreatHa
import Derived.Laws.IdiomCopy
import Derived.OrdersHeld
import Derived.Deep.RegionHeld
import Derived.Laws.ResultCell
import Derived.Laws.Rows
/- Layer 7: a heap of weights and numbers, plain: what is popped is the least one. No program here. -/
namespace Go.Proofs.YtjdglpngcdcneaaGreat
set_option linter.unusedVariables false
set_option linter.unusedSimpArgs false
set_option linter.unusedSectionVars false
abbrev WN := Nat × Nat
def wlt (a b : WN) : Bool := decide (a.1 < b.1) || (decide (a.1 = b.1) && decide (a.2 < b.2))
theorem wlt_iff (a b : WN) : wlt a b = true ↔ (a.1 < b.1 ∨ (a.1 = b.1 ∧ a.2 < b.2)) := by unfold wlt; simp
theorem wlt_no (a b : WN) : wlt a b = false ↔ (b.1 < a.1 ∨ (a.1 = b.1 ∧ b.2 ≤ a.2)) := by
  rw [Bool.eq_false_iff, Ne, wlt_iff]; omega
/-- at most: not greater -/
def wle (a b : WN) : Prop := wlt b a = false
theorem wle_refl (a : WN) : wle a a := by unfold wle; rw [wlt_no]; omega
theorem wle_trans {a b c : WN} (h : wle a b) (k : wle b c) : wle a c := by
  unfold wle at *; rw [wlt_no] at *; omega
theorem wle_of_lt {a b : WN} (h : wlt a b = true) : wle a b := by
  unfold wle; rw [wlt_iff] at h; rw [wlt_no]; omega
theorem wle_antisymm {a b : WN} (h : wle a b) (k : wle b a) : a = b := by
  unfold wle at *; rw [wlt_no] at *; exact Prod.ext (by omega) (by omega)
def hget (l : List WN) (i : Nat) : WN := l.getD i (0, 0)
theorem hget_lt (l : List WN) (i : Nat) (h : i < l.length) : hget l i = l[i] := by
  unfold hget; rw [List.getD_eq_getElem?_getD, List.getElem?_eq_getElem h]; rfl
def hswap (l : List WN) (i j : Nat) : List WN := (l.set i (hget l j)).set j (hget l i)
theorem hswap_len (l : List WN) (i j : Nat) : (hswap l i j).length = l.length := by unfold hswap; simp
theorem hswap_perm (l : List WN) (i j : Nat) (hi : i < l.length) (hj : j < l.length) : (hswap l i j).Perm l := by
  unfold hswap
  rw [hget_lt l i hi, hget_lt l j hj]
  have := Array.swap_perm (xs := l.toArray) (i := i) (j := j) (by simpa using hi) (by simpa using hj)
  have h := Array.perm_iff_toList_perm.1 this
  simpa [Array.swap] using h
theorem hget_set (l : List WN) (i : Nat) (x : WN) (k : Nat) : hget (l.set i x) k = if i = k ∧ k < l.length then x else hget l k := by
  unfold hget
  rw [List.getD_eq_getElem?_getD, List.getD_eq_getElem?_getD, List.getElem?_set]
  by_cases h : i = k
  · subst h
    by_cases h2 : i < l.length
    · rw [if_pos rfl, if_pos h2, if_pos ⟨rfl, h2⟩]; rfl
    · rw [if_pos rfl, if_neg h2, if_neg (fun h => h2 h.2), List.getElem?_eq_none (by omega)]
  · rw [if_neg h, if_neg (fun h2 => h h2.1)]
theorem hget_swap (l : List WN) (i j k : Nat) (hi : i < l.length) (hj : j < l.length) : hget (hswap l i j) k = if k = j then hget l i else if k = i then hget l j else hget l k := by
  unfold hswap
  rw [hget_set, hget_set, List.length_set]
  by_cases h1 : k = j
  · subst h1; rw [if_pos ⟨rfl, hj⟩, if_pos rfl]
  · rw [if_neg (fun h => h1 h.1.symm), if_neg h1]
    by_cases h2 : k = i
    · subst h2; rw [if_pos ⟨rfl, hi⟩, if_pos rfl]
    · rw [if_neg (fun h => h2 h.1.symm), if_neg h2]
/-- container/heap's down, from i, of n -/
def hchild (l : List WN) (i n : Nat) : Nat := if 2 * i + 2 < n ∧ wlt (hget l (2 * i + 2)) (hget l (2 * i + 1)) = true then 2 * i + 2 else 2 * i + 1
def hdown : Nat → List WN → Nat → Nat → List WN
  | 0, l, _, _ => l
  | f + 1, l, i, n =>
    if n ≤ 2 * i + 1 then l
    else if wlt (hget l (hchild l i n)) (hget l i) = true then hdown f (hswap l i (hchild l i n)) (hchild l i n) n else l
def hup : Nat → List WN → Nat → List WN
  | 0, l, _ => l
  | f + 1, l, j => if j = 0 then l else if wlt (hget l j) (hget l ((j - 1) / 2)) = true then hup f (hswap l ((j - 1) / 2) j) ((j - 1) / 2) else l
def hinit : Nat → List WN → List WN
  | 0, l => l
  | i + 1, l => hinit i (hdown l.length l i l.length)
def hpush (l : List WN) (x : WN) : List WN := hup (l.length + 1) (l ++ [x]) l.length
def hpop (l : List WN) : List WN := hdown (l.length - 1) (hswap l 0 (l.length - 1)) 0 (l.length - 1)
theorem hchild_bound (l : List WN) (i n : Nat) (h : ¬ n ≤ 2 * i + 1) : hchild l i n < n ∧ (hchild l i n = 2 * i + 1 ∨ hchild l i n = 2 * i + 2) := by
  unfold hchild
  split
  · rename_i h2; exact ⟨h2.1, .inr rfl⟩
  · exact ⟨by omega, .inl rfl⟩
theorem hdown_len : ∀ (f : Nat) (l : List WN) (i n : Nat), (hdown f l i n).length = l.length
  | 0, l, i, n => rfl
  | f + 1, l, i, n => by
    unfold hdown
    split
    · rfl
    · split
      · rw [hdown_len f, hswap_len]
      · rfl
theorem hdown_perm : ∀ (f : Nat) (l : List WN) (i n : Nat), n ≤ l.length → (hdown f l i n).Perm l
  | 0, l, i, n, h => List.Perm.refl _
  | f + 1, l, i, n, h => by
    unfold hdown
    split
    · exact List.Perm.refl _
    · rename_i h2
      obtain ⟨h3, h4⟩ := hchild_bound l i n h2
      split
      · exact (hdown_perm f _ _ n (by rw [hswap_len]; exact h)).trans (hswap_perm l _ _ (by omega) (by omega))
      · exact List.Perm.refl _
/-- what stands at n and behind it stays -/
theorem hdown_stay : ∀ (f : Nat) (l : List WN) (i n k : Nat), n ≤ l.length → i < n → n ≤ k → hget (hdown f l i n) k = hget l k
  | 0, l, i, n, k, h, hi, hk => rfl
  | f + 1, l, i, n, k, h, hi, hk => by
    unfold hdown
    split
    · rfl
    · rename_i h2
      obtain ⟨h3, h4⟩ := hchild_bound l i n h2
      split
      · rw [hdown_stay f _ _ n k (by rw [hswap_len]; exact h) h3 hk, hget_swap l _ _ _ (by omega) (by omega), if_neg (by omega), if_neg (by omega)]
      · rfl
/-- a heap from m on: each one behind m's place whose parent is at m or behind it isn't less than its parent -/
def Hp (l : List WN) (m n : Nat) : Prop := ∀ k, 0 < k → k < n → m ≤ (k - 1) / 2 → wle (hget l ((k - 1) / 2)) (hget l k)
/-- a heap from m on but for i's children; i's children aren't less than i's parent (if that counts) -/
def HpBut (l : List WN) (m i n : Nat) : Prop :=
  (∀ k, 0 < k → k < n → m ≤ (k - 1) / 2 → (k - 1) / 2 ≠ i → wle (hget l ((k - 1) / 2)) (hget l k)) ∧
  (0 < i → m ≤ (i - 1) / 2 → ∀ k, 0 < k → k < n → (k - 1) / 2 = i → wle (hget l ((i - 1) / 2)) (hget l k))
theorem hchild_le (l : List WN) (i n k : Nat) (h : ¬ n ≤ 2 * i + 1) (hk : k < n) (hk2 : k = 2 * i + 1 ∨ k = 2 * i + 2) : wle (hget l (hchild l i n)) (hget l k) := by
  unfold hchild
  split
  · rename_i h2
    rcases hk2 with rfl | rfl
    · exact wle_of_lt h2.2
    · exact wle_refl _
  · rename_i h2
    rcases hk2 with rfl | rfl
    · exact wle_refl _
    · unfold wle
      cases e : wlt (hget l (2 * i + 2)) (hget l (2 * i + 1)) with
      | false => rfl
      | true => exact absurd ⟨hk, e⟩ h2
theorem hdown_heap : ∀ (f : Nat) (l : List WN) (m i n : Nat), n ≤ l.length → m ≤ i → i < n → n ≤ i + f → HpBut l m i n → Hp (hdown f l i n) m n
  | 0, l, m, i, n, h, hm, hi, hf, hb => by omega
  | f + 1, l, m, i, n, h, hm, hi, hf, hb => by
    unfold hdown
    split
    · rename_i h2
      intro k h0 hk hmk
      exact hb.1 k h0 hk hmk (by omega)
    · rename_i h2
      obtain ⟨h3, h4⟩ := hchild_bound l i n h2
      have hci : i < hchild l i n := by omega
      have hle := fun k => hchild_le l i n k h2
      generalize hchild l i n = c at h3 h4 hci hle
      split
      · rename_i hlt
        refine hdown_heap f _ m c n (by rw [hswap_len]; exact h) (by omega) h3 (by omega) ⟨fun k h0 hk hmk hne => ?_, fun hc0 hmc k h0 hk hkc => ?_⟩
        · rw [hget_swap l i c _ (by omega) (by omega), hget_swap l i c _ (by omega) (by omega)]
          rw [if_neg (show ¬ (k - 1) / 2 = c from hne)]
          by_cases e1 : (k - 1) / 2 = i
          · rw [if_pos e1]
            by_cases e2 : k = c
            · rw [if_pos e2]; exact wle_of_lt hlt
            · rw [if_neg e2, if_neg (by omega)]; exact hle k hk (by omega)
          · rw [if_neg e1]
            have hkc : ¬ k = c := by intro e; subst e; omega
            rw [if_neg hkc]
            by_cases e2 : k = i
            · rw [if_pos e2]
              subst e2
              exact hb.2 h0 hmk c (by omega) h3 (by omega)
            · rw [if_neg e2]
              exact hb.1 k h0 hk hmk e1
        · have hpc : (c - 1) / 2 = i := by omega
          rw [hpc, hget_swap l i c _ (by omega) (by omega), hget_swap l i c _ (by omega) (by omega), if_neg (by omega), if_pos rfl, if_neg (by omega), if_neg (by omega)]
          have := hb.1 k h0 hk (by omega) (by omega)
          rw [hkc] at this
          exact this
      · rename_i hlt
        intro k h0 hk hmk
        by_cases e1 : (k - 1) / 2 = i
        · rw [e1]
          have h5 : wle (hget l i) (hget l c) := by
            unfold wle
            cases e : wlt (hget l c) (hget l i) with
            | false => rfl
            | true => exact absurd e hlt
          exact wle_trans h5 (hle k hk (by omega))
        · exact hb.1 k h0 hk hmk e1
theorem hinit_len : ∀ (i : Nat) (l : List WN), (hinit i l).length = l.length
  | 0, l => rfl
  | i + 1, l => by unfold hinit; rw [hinit_len i, hdown_len]
theorem hinit_perm : ∀ (i : Nat) (l : List WN), (hinit i l).Perm l
  | 0, l => List.Perm.refl _
  | i + 1, l => by unfold hinit; exact (hinit_perm i _).trans (hdown_perm _ _ _ _ (Nat.le_refl _))
theorem hinit_heap : ∀ (i : Nat) (l : List WN), i ≤ l.length → Hp l i l.length → Hp (hinit i l) 0 l.length
  | 0, l, h, hp => hp
  | i + 1, l, h, hp => by
    unfold hinit
    have h2 : Hp (hdown l.length l i l.length) i l.length := by
      refine hdown_heap l.length l i i l.length (Nat.le_refl _) (Nat.le_refl _) (by omega) (by omega) ⟨fun k h0 hk hmk hne => ?_, fun h0 hmi => by omega⟩
      exact hp k h0 hk (by omega)
    have := hinit_heap i (hdown l.length l i l.length) (by rw [hdown_len]; omega) (by rw [hdown_len]; exact h2)
    rw [hdown_len] at this
    exact this
theorem hinit_all (l : List WN) : Hp (hinit (l.length / 2) l) 0 l.length :=
  hinit_heap _ l (by omega) (fun k h0 hk hmk => by omega)
theorem heap_least (l : List WN) (n : Nat) (h : Hp l 0 n) : ∀ k, k < n → wle (hget l 0) (hget l k) := by
  intro k
  induction k using Nat.strongRecOn with
  | ind k ih =>
    intro hk
    by_cases h0 : k = 0
    · subst h0; exact wle_refl _
    · exact wle_trans (ih ((k - 1) / 2) (by omega) (by omega)) (h k (by omega) hk (Nat.zero_le _))
theorem hup_len : ∀ (f : Nat) (l : List WN) (j : Nat), (hup f l j).length = l.length
  | 0, l, j => rfl
  | f + 1, l, j => by
    unfold hup
    split
    · rfl
    · split
      · rw [hup_len f, hswap_len]
      · rfl
theorem hup_perm : ∀ (f : Nat) (l : List WN) (j : Nat), j < l.length → (hup f l j).Perm l
  | 0, l, j, h => List.Perm.refl _
  | f + 1, l, j, h => by
    unfold hup
    split
    · exact List.Perm.refl _
    · split
      · exact (hup_perm f _ _ (by rw [hswap_len]; omega)).trans (hswap_perm l _ _ (by omega) (by omega))
      · exact List.Perm.refl _
/-- a heap but that j may be less than its parent; j's children aren't less than j's parent -/
def HpUp (l : List WN) (j n : Nat) : Prop :=
  (∀ k, 0 < k → k < n → k ≠ j → wle (hget l ((k - 1) / 2)) (hget l k)) ∧
  (0 < j → ∀ k, 0 < k → k < n → (k - 1) / 2 = j → wle (hget l ((j - 1) / 2)) (hget l k))
theorem hup_heap : ∀ (f : Nat) (l : List WN) (j n : Nat), n ≤ l.length → j < n → j < f → HpUp l j n → Hp (hup f l j) 0 n
  | 0, l, j, n, h, hj, hf, hb => by omega
  | f + 1, l, j, n, h, hj, hf, hb => by
    unfold hup
    split
    · rename_i h0
      subst h0
      intro k h0 hk _
      exact hb.1 k h0 hk (by omega)
    · rename_i h0
      split
      · rename_i hlt
        have hp : (j - 1) / 2 < j := by omega
        generalize hpe : (j - 1) / 2 = p at hlt hp
        refine hup_heap f _ p n (by rw [hswap_len]; exact h) (by omega) (by omega) ⟨fun k hk0 hk hne => ?_, fun hp0 k hk0 hk hkp => ?_⟩
        · rw [hget_swap l p j _ (by omega) (by omega), hget_swap l p j _ (by omega) (by omega)]
          by_cases e1 : k = j
          · subst e1
            rw [if_pos rfl, if_neg (by omega), if_pos (by omega)]
            exact wle_of_lt hlt
          · rw [if_neg e1, if_neg (show ¬ k = p from hne)]
            by_cases e2 : (k - 1) / 2 = j
            · rw [if_pos e2]
              have := hb.2 (by omega) k hk0 hk e2
              rw [hpe] at this
              exact this
            · rw [if_neg e2]
              have h1 := hb.1 k hk0 hk e1
              by_cases e3 : (k - 1) / 2 = p
              · rw [if_pos e3]
                rw [e3] at h1
                exact wle_trans (wle_of_lt hlt) h1
              · rw [if_neg e3]; exact h1
        · have h1 := hb.1 p (by omega) (by omega) (by omega)
          rw [hget_swap l p j _ (by omega) (by omega), hget_swap l p j _ (by omega) (by omega), if_neg (by omega), if_neg (by omega)]
          by_cases e1 : k = j
          · rw [if_pos e1]; exact h1
          · rw [if_neg e1, if_neg (by omega)]
            have h2 := hb.1 k hk0 hk e1
            rw [hkp] at h2
            exact wle_trans h1 h2
      · rename_i hlt
        intro k hk0 hk _
        by_cases e : k = j
        · subst e
          unfold wle
          cases e : wlt (hget l k) (hget l ((k - 1) / 2)) with
          | false => rfl
          | true => exact absurd e hlt
        · exact hb.1 k hk0 hk e
theorem hget_append (l : List WN) (x : WN) (k : Nat) (h : k < l.length) : hget (l ++ [x]) k = hget l k := by
  unfold hget; rw [List.getD_eq_getElem?_getD, List.getD_eq_getElem?_getD, List.getElem?_append_left h]
theorem hpush_len (l : List WN) (x : WN) : (hpush l x).length = l.length + 1 := by unfold hpush; rw [hup_len]; simp
theorem hpush_perm (l : List WN) (x : WN) : (hpush l x).Perm (l ++ [x]) := hup_perm _ _ _ (by simp)
theorem hpush_heap (l : List WN) (x : WN) (h : Hp l 0 l.length) : Hp (hpush l x) 0 (l.length + 1) := by
  refine hup_heap _ _ l.length _ (by simp) (by omega) (by omega) ⟨fun k h0 hk hne => ?_, fun h0 k hk0 hk hkl => by omega⟩
  rw [hget_append l x k (by omega), hget_append l x _ (by omega)]
  exact h k h0 (by omega) (Nat.zero_le _)
theorem hpop_len (l : List WN) : (hpop l).length = l.length := by unfold hpop; rw [hdown_len, hswap_len]
theorem hpop_perm (l : List WN) (h : 0 < l.length) : (hpop l).Perm l :=
  (hdown_perm _ _ _ _ (by rw [hswap_len]; omega)).trans (hswap_perm l _ _ (by omega) (by omega))
/-- the last one is what was the first -/
theorem hpop_last (l : List WN) (h : 0 < l.length) : hget (hpop l) (l.length - 1) = hget l 0 := by
  unfold hpop
  by_cases h1 : l.length = 1
  · rw [h1]
    show hget (hswap l 0 0) 0 = _
    rw [hget_swap l 0 0 0 (by omega) (by omega), if_pos rfl]
  · rw [hdown_stay _ _ _ _ _ (by rw [hswap_len]; omega) (by omega) (Nat.le_refl _), hget_swap l _ _ _ (by omega) (by omega), if_pos rfl]
theorem hpop_heap (l : List WN) (h : Hp l 0 l.length) : Hp (hpop l) 0 (l.length - 1) := by
  unfold hpop
  by_cases h1 : l.length ≤ 1
  · intro k h0 hk; omega
  · refine hdown_heap _ _ 0 0 _ (by rw [hswap_len]; omega) (Nat.le_refl _) (by omega) (by omega) ⟨fun k h0 hk _ hne => ?_, fun h0 => by omega⟩
    rw [hget_swap l _ _ _ (by omega) (by omega), hget_swap l _ _ _ (by omega) (by omega), if_neg (by omega), if_neg (by omega), if_neg (by omega), if_neg (by omega)]
    exact h k h0 (by omega) (Nat.zero_le _)
theorem hget_take (l : List WN) (n k : Nat) (h : k < n) : hget (l.take n) k = hget l k := by
  unfold hget; rw [List.getD_eq_getElem?_getD, List.getD_eq_getElem?_getD, List.getElem?_take, if_pos h]
/-- a pop: the least one, and what is left -/
theorem hpop_spec (l : List WN) (h0 : 0 < l.length) (h : Hp l 0 l.length) :
    Hp ((hpop l).take (l.length - 1)) 0 (l.length - 1) ∧ ((hpop l).take (l.length - 1) ++ [hget l 0]).Perm l ∧ ∀ y ∈ l, wle (hget l 0) y := by
  refine ⟨fun k hk0 hk hm => ?_, ?_, fun y hy => ?_⟩
  · rw [hget_take _ _ _ (by omega), hget_take _ _ _ (by omega)]
    exact hpop_heap l h k hk0 hk hm
  · have hl := hpop_len l
    have he : (hpop l).take (l.length - 1) ++ [hget l 0] = hpop l := by
      rw [← hpop_last l h0]
      have hlt : l.length - 1 < (hpop l).length := by omega
      rw [hget_lt _ _ hlt]
      have := List.take_succ_eq_append_getElem hlt
      rw [← this, List.take_of_length_le (by omega)]
    rw [he]
    exact hpop_perm l h0
  · obtain ⟨i, hi, rfl⟩ := List.getElem_of_mem hy
    rw [← hget_lt l i hi]
    exact heap_least l _ h i hi
end Go.Proofs.YtjdglpngcdcneaaGreat

/- Rows of elements of several cells each. -/
namespace Go.Proofs.YtjdglpngcdcneaaGreat
open Go.RowKit
set_option linter.unusedVariables false
set_option linter.unusedSimpArgs false
set_option linter.unusedSectionVars false
section
variable {α : Type} [Inhabited α] {enc : α → List Value} {size : Nat}
theorem flat_len (hk : ∀ x, (enc x).length = size) (l : List α) : (l.flatMap enc).length = l.length * size := by
  induction l with
  | nil => simp
  | cons x l ih => rw [List.flatMap_cons, List.length_append, ih, hk, List.length_cons, Nat.succ_mul, Nat.add_comm]
theorem flat_get (hk : ∀ x, (enc x).length = size) (l : List α) (i : Nat) (h : i < l.length) (j : Nat) (hj : j < size) : (l.flatMap enc)[i * size + j]? = (enc (l.getD i default))[j]? := by
  induction l generalizing i with
  | nil => simp at h
  | cons x l ih =>
    rw [List.flatMap_cons]
    cases i with
    | zero => rw [Nat.zero_mul, Nat.zero_add, List.getElem?_append_left (by rw [hk]; exact hj)]; rfl
    | succ i =>
      rw [List.getElem?_append_right (by rw [hk, Nat.succ_mul]; omega), hk, show (i + 1) * size + j - size = i * size + j by rw [Nat.succ_mul]; omega, ih i (by simpa using h)]
      rfl
end
end Go.Proofs.YtjdglpngcdcneaaGreat

/- A whole element is written into an own row. -/
namespace Go.Proofs.YtjdglpngcdcneaaGreat
open Go.RowKit
set_option linter.unusedVariables false
set_option linter.unusedSimpArgs false
set_option linter.unusedSectionVars false
def setN : List Value → Nat → List Value → List Value
  | xs, _, [] => xs
  | xs, o, v :: r => setN (xs.set o v) (o + 1) r
theorem setN_eq : ∀ (vs xs : List Value) (o : Nat), o + vs.length ≤ xs.length → setN xs o vs = xs.take o ++ (vs ++ xs.drop (o + vs.length))
  | [], xs, o, h => by simp [setN]
  | v :: r, xs, o, h => by
    rw [List.length_cons] at h
    rw [setN, setN_eq r (xs.set o v) (o + 1) (by rw [List.length_set]; omega)]
    have e1 : (xs.set o v).take (o + 1) = xs.take o ++ [v] := by
      rw [List.take_succ_eq_append_getElem (by rw [List.length_set]; omega), List.getElem_set_self, List.take_set_of_le (Nat.le_refl _)]
    have e2 : (xs.set o v).drop (o + 1 + r.length) = xs.drop (o + (v :: r).length) := by
      rw [List.drop_set_of_lt (by omega), List.length_cons]; congr 1; omega
    rw [e1, e2]
    simp
section
variable {α : Type} [Inhabited α] {enc : α → List Value} {size : Nat}
theorem flat_take' (hk : ∀ x, (enc x).length = size) (l : List α) (i : Nat) (h : i ≤ l.length) : (l.flatMap enc).take (i * size) = (l.take i).flatMap enc := by
  conv => lhs; rw [← List.take_append_drop i l, List.flatMap_append]
  rw [List.take_left' (by rw [flat_len hk, List.length_take, Nat.min_eq_left h])]
theorem flat_drop' (hk : ∀ x, (enc x).length = size) (l : List α) (i : Nat) (h : i ≤ l.length) : (l.flatMap enc).drop (i * size) = (l.drop i).flatMap enc := by
  conv => lhs; rw [← List.take_append_drop i l, List.flatMap_append]
  rw [List.drop_left' (by rw [flat_len hk, List.length_take, Nat.min_eq_left h])]
theorem flat_set (hk : ∀ x, (enc x).length = size) (l : List α) (i : Nat) (h : i < l.length) (x : α) : setN (l.flatMap enc) (i * size) (enc x) = (l.set i x).flatMap enc := by
  have h2 : (i + 1) * size ≤ l.length * size := Nat.mul_le_mul_right _ h
  rw [Nat.succ_mul] at h2
  rw [setN_eq _ _ _ (by rw [hk, flat_len hk]; exact h2), flat_take' hk l i (by omega), hk, ← Nat.succ_mul, flat_drop' hk l (i + 1) (by omega), List.set_eq_take_append_cons_drop, if_pos h, List.flatMap_append, List.flatMap_cons]
end
section
variable {P : Program} {S : Nat → Prop} {W : World} {e : TypeId} {size g n cap : Nat} {L : List Thing}
theorem St.storedN : ∀ (vs : List Value) {w : World} {xs : List Value} (o : Nat), St S W w (ownT e size (.slice (some ⟨g, 0, none⟩) n cap) n xs :: L) → St S W (w.setCells g o vs) (ownT e size (.slice (some ⟨g, 0, none⟩) n cap) n (setN xs o vs) :: L)
  | [], w, xs, o, h => h
  | v :: r, w, xs, o, h => St.storedN r (o + 1) (h.stored o v)
theorem run_store_own {w : World} {xs : List Value} (h : Own w e size (.slice (some ⟨g, 0, none⟩) n cap) n xs) (t : TypeId) (u : Value) (seg : List Value) (o : Nat) (hu : u.cells.toList = seg) (ht : (P.info? t).map (·.size) = some seg.length)
    (hfit : o + seg.length ≤ n * size) (h1 : ∀ q ∈ seg, q.oneCell' = true) : (Instr.storeAt t (.pointer (some ⟨g, o, none⟩)) u).run P w = .ok () (w.setCells g o seg) := by
  obtain ⟨i, hi, hsz⟩ := Option.map_eq_some_iff.1 ht
  have hc : u.cells.size = i.size := by rw [hsz, ← hu, Array.length_toList]
  have hl := h.len
  have hst := run_storeCells_cells (P := P) g o seg 0 w (fun j hj => by rw [Nat.add_zero, Own.cell h (o + j) (by omega), List.getElem?_eq_getElem (by omega)]; rfl) (fun j _ => Own.free h _) h1
  simp only [Nat.add_zero] at hst
  simp [Instr.storeAt, Instr.sureAddr, storeVar, sizeOf, typeInfo, hi, hc, hu, hst]
/-- at a step of a region that draws its order -/
theorem step_store_own {ops : Array Oper} {o : Oper} {a : Act} {w : World} {K : Act → World → Prop} {Q : Exit → Act → World → Prop} {E : Prop} (hgd : o.guard = none) (t : TypeId) (p x : Operand) (ho : o.op = .store t p x)
    {xs : List Value} (h : St S W w (ownT e size (.slice (some ⟨g, 0, none⟩) n cap) n xs :: L)) (off : Nat) (hp : a.eval p = .pointer (some ⟨g, off, none⟩)) (seg : List Value) (hu : (a.eval x).cells.toList = seg) (ht : (P.info? t).map (·.size) = some seg.length)
    (hfit : off + seg.length ≤ n * size) (h1 : ∀ q ∈ seg, q.oneCell' = true)
    (hK : St S W (w.setCells g off seg) (ownT e size (.slice (some ⟨g, 0, none⟩) n cap) n (setN xs off seg) :: L) → K (a.put o.dst undef) (w.setCells g off seg)) :
    if Region.wanted o (yielded ops a.tmps) = true then Oper.wp P o a w K Q else E := by
  have hw : Region.wanted o (yielded ops a.tmps) = true := by simp [Region.wanted, hgd]
  rw [if_pos hw]
  have hrun := run_store_own (P := P) h.own t (a.eval x) seg off hu ht hfit h1
  unfold Oper.wp execOp
  simp only [ho, hp, Sem.run_bind, Sem.run_pure, Result.andThen_ok, hrun]
  exact hK (h.storedN seg off)
end
end Go.Proofs.YtjdglpngcdcneaaGreat

/- Layer 7: two trees compared. -/
namespace Go.Proofs.YtjdglpngcdcneaaGreat
open Go.RowKit
set_option linter.unusedVariables false
set_option linter.unusedSimpArgs false
set_option linter.unusedSectionVars false
def cmpN (x y : Nat) : Int := if x < y then -1 else if y < x then 1 else 0
def orI (a b : Int) : Int := if a = 0 then b else a
theorem orI_lt (a b : WN) : decide (orI (cmpN a.1 b.1) (cmpN a.2 b.2) < 0) = wlt a b := by
  unfold orI cmpN wlt
  by_cases h1 : a.1 < b.1
  · rw [if_pos h1, if_neg (by omega), decide_eq_true h1]; rfl
  · rw [if_neg h1, decide_eq_false h1]
    by_cases h2 : b.1 < a.1
    · rw [if_pos h2, if_neg (by omega), decide_eq_false (show ¬ a.1 = b.1 by omega)]; rfl
    · rw [if_neg h2, if_pos rfl, decide_eq_true (show a.1 = b.1 by omega)]
      by_cases h3 : a.2 < b.2
      · rw [if_pos h3, decide_eq_true h3]; rfl
      · rw [if_neg h3, decide_eq_false h3]
        by_cases h4 : b.2 < a.2
        · rw [if_pos h4]; rfl
        · rw [if_neg h4]; rfl
theorem nanu (x : Int) (w : World) : Calls Tryz.prog 131 #[.int .u64 x] w fun e w' => e = .returned (.bool false) ∧ w = w' := by
  go_enter Tryz.func131, Tryz.ntmps131
  go_wp2
  go_ret
  exact ⟨by simp, rfl⟩
theorem nani (x : Int) (w : World) : Calls Tryz.prog 132 #[.int .i64 x] w fun e w' => e = .returned (.bool false) ∧ w = w' := by
  go_enter Tryz.func132, Tryz.ntmps132
  go_wp2
  go_ret
  exact ⟨by simp, rfl⟩
set_option maxRecDepth 20000 in
theorem cmpu_any (x y : Nat) (w : World) : Calls Tryz.prog 129 #[.int .u64 x, .int .u64 y] w fun e w' => e = .returned (.int .i64 (cmpN x y)) ∧ w = w' := by
  unfold cmpN
  by_cases h1 : x < y
  · have h2 : (x : Int) < (y : Int) := by omega
    rw [if_pos h1]
    clear h1
    go_enter Tryz.func129, Tryz.ntmps129
    go_wp2_with fail
    refine (nanu _ _).mono ?_
    rintro e w1 ⟨rfl, rfl⟩
    go_wp2_with fail
    refine (nanu _ _).mono ?_
    rintro e w1 ⟨rfl, rfl⟩
    go_wp2_with fail
    go_ret
    exact ⟨rfl, rfl⟩
  · have h2 : ¬ (x : Int) < (y : Int) := by omega
    rw [if_neg h1]
    clear h1
    by_cases h3 : y < x
    · have h4 : (y : Int) < (x : Int) := by omega
      rw [if_pos h3]
      clear h3
      go_enter Tryz.func129, Tryz.ntmps129
      go_wp2_with fail
      refine (nanu _ _).mono ?_
      rintro e w1 ⟨rfl, rfl⟩
      go_wp2_with fail
      refine (nanu _ _).mono ?_
      rintro e w1 ⟨rfl, rfl⟩
      go_wp2_with fail
      go_ret
      exact ⟨rfl, rfl⟩
    · have h4 : ¬ (y : Int) < (x : Int) := by omega
      rw [if_neg h3]
      clear h3
      go_enter Tryz.func129, Tryz.ntmps129
      go_wp2_with fail
      refine (nanu _ _).mono ?_
      rintro e w1 ⟨rfl, rfl⟩
      go_wp2_with fail
      refine (nanu _ _).mono ?_
      rintro e w1 ⟨rfl, rfl⟩
      go_wp2_with fail
      go_ret
      exact ⟨rfl, rfl⟩
set_option maxRecDepth 20000 in
theorem cmpi_any (x y : Nat) (w : World) : Calls Tryz.prog 130 #[.int .i64 x, .int .i64 y] w fun e w' => e = .returned (.int .i64 (cmpN x y)) ∧ w = w' := by
  unfold cmpN
  by_cases h1 : x < y
  · have h2 : (x : Int) < (y : Int) := by omega
    rw [if_pos h1]
    clear h1
    go_enter Tryz.func130, Tryz.ntmps130
    go_wp2_with fail
    refine (nani _ _).mono ?_
    rintro e w1 ⟨rfl, rfl⟩
    go_wp2_with fail
    refine (nani _ _).mono ?_
    rintro e w1 ⟨rfl, rfl⟩
    go_wp2_with fail
    go_ret
    exact ⟨rfl, rfl⟩
  · have h2 : ¬ (x : Int) < (y : Int) := by omega
    rw [if_neg h1]
    clear h1
    by_cases h3 : y < x
    · have h4 : (y : Int) < (x : Int) := by omega
      rw [if_pos h3]
      clear h3
      go_enter Tryz.func130, Tryz.ntmps130
      go_wp2_with fail
      refine (nani _ _).mono ?_
      rintro e w1 ⟨rfl, rfl⟩
      go_wp2_with fail
      refine (nani _ _).mono ?_
      rintro e w1 ⟨rfl, rfl⟩
      go_wp2_with fail
      go_ret
      exact ⟨rfl, rfl⟩
    · have h4 : ¬ (y : Int) < (x : Int) := by omega
      rw [if_neg h3]
      clear h3
      go_enter Tryz.func130, Tryz.ntmps130
      go_wp2_with fail
      refine (nani _ _).mono ?_
      rintro e w1 ⟨rfl, rfl⟩
      go_wp2_with fail
      refine (nani _ _).mono ?_
      rintro e w1 ⟨rfl, rfl⟩
      go_wp2_with fail
      go_ret
      exact ⟨rfl, rfl⟩
set_option maxRecDepth 20000 in
theorem or_any (a b : Int) (g : Nat) (w : World) (h0 : w.cell? ⟨g, 0, none⟩ = some (.int .i64 a)) (h1 : w.cell? ⟨g, 1, none⟩ = some (.int .i64 b)) :
    Calls Tryz.prog 128 #[.slice (some ⟨g, 0, none⟩) 2 2] w fun e w' => e = .returned (.int .i64 (orI a b)) ∧ w = w' := by
  obtain ⟨r, hr⟩ : ∃ r, r = orI a b := ⟨_, rfl⟩
  rw [← hr]
  have HR := Lib.hid hr
  clear hr
  go_enter Tryz.func128, Tryz.ntmps128
  go_wp2_with fail
  go_loop [8] (fun v8 => ∃ k : Nat, v8 = .int .i64 k ∧ k ≤ 2 ∧ (1 ≤ k → a = 0) ∧ (2 ≤ k → b = 0)) (fun v8 => 2 - (intOf v8).toNat)
  case atStart => exact ⟨0, rfl, by omega, by omega, by omega⟩
  case round =>
    obtain ⟨k, rfl, hk, ha, hb⟩ := hrel
    have hR := HR.out
    unfold orI at hR
    rcases (show k = 0 ∨ k = 1 ∨ k = 2 by omega) with rfl | rfl | rfl
    · clear ha hb
      by_cases ha : a = 0
      · have hn : (a != 0) = false := by simp [ha]
        clear hR
        go_wp2_with fail
        go_round
        all_goals first | exact ⟨1, rfl, by omega, fun _ => ha, by omega⟩ | (simp [intOf]; done) | (simp [intOf]; omega)
      · have hn : (a != 0) = true := by simp [ha]
        rw [if_neg ha] at hR
        have HR2 := Lib.hid hR
        clear hR ha
        go_wp2_with fail
        go_ret
        rw [HR2.out]
        exact ⟨rfl, rfl⟩
    · have ha0 := ha (by omega)
      rw [if_pos ha0] at hR
      clear ha hb
      by_cases hb : b = 0
      · have hn : (b != 0) = false := by simp [hb]
        clear hR
        go_wp2_with fail
        go_round
        all_goals first | exact ⟨2, rfl, by omega, fun _ => ha0, fun _ => hb⟩ | (simp [intOf]; done) | (simp [intOf]; omega)
      · have hn : (b != 0) = true := by simp [hb]
        have HR2 := Lib.hid hR
        clear hR hb ha0
        go_wp2_with fail
        go_ret
        rw [HR2.out]
        exact ⟨rfl, rfl⟩
    · have ha0 := ha (by omega)
      have hb0 := hb (by omega)
      rw [if_pos ha0, hb0] at hR
      have HR2 := Lib.hid hR
      clear hR ha hb ha0 hb0
      go_wp2_with fail
      go_ret
      rw [HR2.out]
      exact ⟨rfl, rfl⟩
end Go.Proofs.YtjdglpngcdcneaaGreat

/- Layer 7: the heap of trees in memory: Less, Len. -/
namespace Go.Proofs.YtjdglpngcdcneaaGreat
open Go.RowKit
set_option linter.unusedVariables false
set_option linter.unusedSimpArgs false
set_option linter.unusedSectionVars false
/-- a tree's cells: its weight, its number, its bytes -/
def trC (vs : Nat → Value) (x : WN) : List Value := [.int .u64 x.1, .int .i64 x.2, vs x.2]
theorem trC_len (vs : Nat → Value) (x : WN) : (trC vs x).length = 3 := rfl
theorem hget_default (l : List WN) (i : Nat) : l.getD i default = hget l i := rfl
theorem tr_cells {w : World} {A : Option Addr} {n c : Nat} {vs : Nat → Value} {l : List WN} (h : Own w 109 3 (.slice A n c) n (l.flatMap (trC vs))) (hl : l.length = n) (h0 : 0 < n) :
    ∃ g, A = some ⟨g, 0, none⟩ ∧ ∀ i, i < n → w.cell? ⟨g, i * 3, none⟩ = some (.int .u64 (hget l i).1) ∧ w.cell? ⟨g, i * 3 + 1, none⟩ = some (.int .i64 (hget l i).2) ∧ w.cell? ⟨g, i * 3 + 2, none⟩ = some (vs (hget l i).2) := by
  obtain ⟨g, c', e, _⟩ := h.slice h0
  cases e
  refine ⟨g, rfl, fun i hi => ?_⟩
  have f := fun j (hj : j < 3) => flat_get (trC_len vs) l i (by omega) j hj
  have q0 := Own.cell h (i * 3) (by omega)
  have q1 := Own.cell h (i * 3 + 1) (by omega)
  have q2 := Own.cell h (i * 3 + 2) (by omega)
  rw [show i * 3 = i * 3 + 0 from rfl, f 0 (by omega)] at q0
  rw [f 1 (by omega)] at q1
  rw [f 2 (by omega)] at q2
  exact ⟨q0, q1, q2⟩
set_option maxRecDepth 20000 in
set_option maxHeartbeats 4000000 in
theorem less_own {w : World} {A : Option Addr} {n c : Nat} {vs : Nat → Value} {l : List WN} (h : Own w 109 3 (.slice A n c) n (l.flatMap (trC vs))) (hl : l.length = n) (hn : n ≤ 1000000) (i k : Nat) (hi : i < n) (hk : k < n) :
    Calls Tryz.prog 126 #[.slice A n c, .int .i64 i, .int .i64 k] w fun e w' => e = .returned (.bool (wlt (hget l i) (hget l k))) ∧ Ext w w' := by
  obtain ⟨g, rfl, hc⟩ := tr_cells h hl (by omega)
  obtain ⟨p0, p1, _⟩ := hc i hi
  obtain ⟨q0, q1, _⟩ := hc k hk
  have HO := Lib.hid (orI_lt (hget l i) (hget l k))
  generalize wlt (hget l i) (hget l k) = r at HO ⊢
  generalize hget l i = a at p0 p1 HO
  generalize hget l k = b at q0 q1 HO
  obtain ⟨wa, na⟩ := a
  obtain ⟨wb, nb⟩ := b
  simp only at p0 p1 q0 q1 HO
  have k1 : ∀ w', Ext w w' → w'.cell? ⟨g, i * 3, none⟩ = some (.int .u64 wa) := fun w' x => Ext.cell x p0
  have k2 : ∀ w', Ext w w' → w'.cell? ⟨g, i * 3 + 1, none⟩ = some (.int .i64 na) := fun w' x => Ext.cell x p1
  have k3 : ∀ w', Ext w w' → w'.cell? ⟨g, k * 3, none⟩ = some (.int .u64 wb) := fun w' x => Ext.cell x q0
  have k4 : ∀ w', Ext w w' → w'.cell? ⟨g, k * 3 + 1, none⟩ = some (.int .i64 nb) := fun w' x => Ext.cell x q1
  clear hc p0 p1 q0 q1 h hl
  have hS : Ext w w.drew := (Mut.refl noB w).drew
  go_enter Tryz.func126, Tryz.ntmps126
  go_wp2_with fail
  refine wp_region_held (S := fun w' => Ext w w') (by kernel_rfl) ?_
  change wpAnyH _ _ _ _ _ _ _ _ (World.drew _)
  refine wpAnyH_take (i := 0) (v := ?_) rfl (by kernel_rfl) (by kernel_rfl) (by kernel_rfl) (fun _ _ _ h => h) (Or.inl ⟨by rfl, ?_⟩) hS ?_
  rotate_left
  · (intro w' hS'; have j1 := k1 w' hS'; have j2 := k2 w' hS'; have j3 := k3 w' hS'; have j4 := k4 w' hS'; go_simp; try with_reducible rfl)
  refine wpAnyH_take (i := 1) (v := ?_) rfl (by kernel_rfl) (by kernel_rfl) (by kernel_rfl) (fun _ _ _ h => h) (Or.inl ⟨by rfl, ?_⟩) hS ?_
  rotate_left
  · (intro w' hS'; have j1 := k1 w' hS'; have j2 := k2 w' hS'; have j3 := k3 w' hS'; have j4 := k4 w' hS'; go_simp; try with_reducible rfl)
  refine wpAnyH_take (i := 2) (v := ?_) rfl (by kernel_rfl) (by kernel_rfl) (by kernel_rfl) (fun _ _ _ h => h) (Or.inl ⟨by rfl, ?_⟩) hS ?_
  rotate_left
  · (intro w' hS'; have j1 := k1 w' hS'; have j2 := k2 w' hS'; have j3 := k3 w' hS'; have j4 := k4 w' hS'; go_simp; try with_reducible rfl)
  refine wpAnyH_take (i := 3) (v := ?_) rfl (by kernel_rfl) (by kernel_rfl) (by kernel_rfl) (fun _ _ _ h => h) (Or.inl ⟨by rfl, ?_⟩) hS ?_
  rotate_left
  · (intro w' hS'; have j1 := k1 w' hS'; have j2 := k2 w' hS'; have j3 := k3 w' hS'; have j4 := k4 w' hS'; go_simp; try with_reducible rfl)
  refine wpAnyH_take (i := 4) (v := ?_) rfl (by kernel_rfl) (by kernel_rfl) (by kernel_rfl) (fun _ _ _ h => h) (Or.inl ⟨by rfl, ?_⟩) hS ?_
  rotate_left
  · (intro w' hS'; have j1 := k1 w' hS'; have j2 := k2 w' hS'; have j3 := k3 w' hS'; have j4 := k4 w' hS'; go_simp; try with_reducible rfl)
  refine wpAnyH_take (i := 5) (v := ?_) rfl (by kernel_rfl) (by kernel_rfl) (by kernel_rfl) (fun _ _ _ h => h) (Or.inl ⟨by rfl, ?_⟩) hS ?_
  rotate_left
  · (intro w' hS'; have j1 := k1 w' hS'; have j2 := k2 w' hS'; have j3 := k3 w' hS'; have j4 := k4 w' hS'; go_simp; try with_reducible rfl)
  refine wpAnyH_take (i := 6) (v := ?_) rfl (by kernel_rfl) (by kernel_rfl) (by kernel_rfl) (fun _ _ _ h => h) (Or.inl ⟨by rfl, ?_⟩) hS ?_
  rotate_left
  · (intro w' hS'; have j1 := k1 w' hS'; have j2 := k2 w' hS'; have j3 := k3 w' hS'; have j4 := k4 w' hS'; go_simp; try with_reducible rfl)
  refine wpAnyH_take (i := 7) (v := ?_) rfl (by kernel_rfl) (by kernel_rfl) (by kernel_rfl) (fun _ _ _ h => h) (Or.inl ⟨by rfl, ?_⟩) hS ?_
  rotate_left
  · (intro w' hS'; have j1 := k1 w' hS'; have j2 := k2 w' hS'; have j3 := k3 w' hS'; have j4 := k4 w' hS'; go_simp; try with_reducible rfl)
  refine wpAnyH_take (i := 8) (v := ?_) rfl (by kernel_rfl) (by kernel_rfl) (by kernel_rfl) (fun _ _ _ h => h) (Or.inl ⟨by rfl, ?_⟩) hS ?_
  rotate_left
  · (intro w' hS'; have j1 := k1 w' hS'; have j2 := k2 w' hS'; have j3 := k3 w' hS'; have j4 := k4 w' hS'; go_simp; try with_reducible rfl)
  refine wpAnyH_take (i := 9) (v := ?_) rfl (by kernel_rfl) (by kernel_rfl) (by kernel_rfl) (fun _ _ _ h => h) (Or.inl ⟨by rfl, ?_⟩) hS ?_
  rotate_left
  · (intro w' hS'; have j1 := k1 w' hS'; have j2 := k2 w' hS'; have j3 := k3 w' hS'; have j4 := k4 w' hS'; go_simp; try with_reducible rfl)
  refine wpAnyH_take (i := 11) (v := ?_) rfl (by kernel_rfl) (by kernel_rfl) (by kernel_rfl) (fun _ _ _ h => h) (Or.inl ⟨by rfl, ?_⟩) hS ?_
  rotate_left
  · (intro w' hS'; have j1 := k1 w' hS'; have j2 := k2 w' hS'; have j3 := k3 w' hS'; have j4 := k4 w' hS'; go_simp; try with_reducible rfl)
  refine wpAnyH_take (i := 12) (v := ?_) rfl (by kernel_rfl) (by kernel_rfl) (by kernel_rfl) (fun _ _ _ h => h) (Or.inl ⟨by rfl, ?_⟩) hS ?_
  rotate_left
  · (intro w' hS'; have j1 := k1 w' hS'; have j2 := k2 w' hS'; have j3 := k3 w' hS'; have j4 := k4 w' hS'; go_simp; try with_reducible rfl)
  refine wpAnyH_take (i := 13) (v := ?_) rfl (by kernel_rfl) (by kernel_rfl) (by kernel_rfl) (fun _ _ _ h => h) (Or.inl ⟨by rfl, ?_⟩) hS ?_
  rotate_left
  · (intro w' hS'; have j1 := k1 w' hS'; have j2 := k2 w' hS'; have j3 := k3 w' hS'; have j4 := k4 w' hS'; go_simp; try with_reducible rfl)
  refine wpAnyH_take (i := 14) (v := ?_) rfl (by kernel_rfl) (by kernel_rfl) (by kernel_rfl) (fun _ _ _ h => h) (Or.inl ⟨by rfl, ?_⟩) hS ?_
  rotate_left
  · (intro w' hS'; have j1 := k1 w' hS'; have j2 := k2 w' hS'; have j3 := k3 w' hS'; have j4 := k4 w' hS'; go_simp; try with_reducible rfl)
  refine wpAnyH_take (i := 15) (v := ?_) rfl (by kernel_rfl) (by kernel_rfl) (by kernel_rfl) (fun _ _ _ h => h) (Or.inl ⟨by rfl, ?_⟩) hS ?_
  rotate_left
  · (intro w' hS'; have j1 := k1 w' hS'; have j2 := k2 w' hS'; have j3 := k3 w' hS'; have j4 := k4 w' hS'; go_simp; try with_reducible rfl)
  refine wpAnyH_take (i := 16) (v := ?_) rfl (by kernel_rfl) (by kernel_rfl) (by kernel_rfl) (fun _ _ _ h => h) (Or.inl ⟨by rfl, ?_⟩) hS ?_
  rotate_left
  · (intro w' hS'; have j1 := k1 w' hS'; have j2 := k2 w' hS'; have j3 := k3 w' hS'; have j4 := k4 w' hS'; go_simp; try with_reducible rfl)
  refine wpAnyH_take (i := 17) (v := ?_) rfl (by kernel_rfl) (by kernel_rfl) (by kernel_rfl) (fun _ _ _ h => h) (Or.inl ⟨by rfl, ?_⟩) hS ?_
  rotate_left
  · (intro w' hS'; have j1 := k1 w' hS'; have j2 := k2 w' hS'; have j3 := k3 w' hS'; have j4 := k4 w' hS'; go_simp; try with_reducible rfl)
  refine wpAnyH_take (i := 18) (v := ?_) rfl (by kernel_rfl) (by kernel_rfl) (by kernel_rfl) (fun _ _ _ h => h) (Or.inl ⟨by rfl, ?_⟩) hS ?_
  rotate_left
  · (intro w' hS'; have j1 := k1 w' hS'; have j2 := k2 w' hS'; have j3 := k3 w' hS'; have j4 := k4 w' hS'; go_simp; try with_reducible rfl)
  refine wpAnyH_take (i := 19) (v := ?_) rfl (by kernel_rfl) (by kernel_rfl) (by kernel_rfl) (fun _ _ _ h => h) (Or.inl ⟨by rfl, ?_⟩) hS ?_
  rotate_left
  · (intro w' hS'; have j1 := k1 w' hS'; have j2 := k2 w' hS'; have j3 := k3 w' hS'; have j4 := k4 w' hS'; go_simp; try with_reducible rfl)
  refine wpAnyH_take (i := 20) (v := ?_) rfl (by kernel_rfl) (by kernel_rfl) (by kernel_rfl) (fun _ _ _ h => h) (Or.inl ⟨by rfl, ?_⟩) hS ?_
  rotate_left
  · (intro w' hS'; have j1 := k1 w' hS'; have j2 := k2 w' hS'; have j3 := k3 w' hS'; have j4 := k4 w' hS'; go_simp; try with_reducible rfl)
  refine wpAnyH_ready (rs := [10]) (by kernel_rfl) (by simp) ?_
  refine AllReadyH.cons rfl (fun K hK => ?_) AllReadyH.nil
  go_simp
  go_at_call 129
  refine (cmpu_any _ _ _).mono ?_
  rintro e w1 ⟨rfl, rfl⟩
  refine hK.out _ _ hS (fun _ => ?_)
  clear hK K
  refine wpAnyH_ready (rs := [21]) (by kernel_rfl) (by simp) ?_
  refine AllReadyH.cons rfl (fun K hK => ?_) AllReadyH.nil
  go_simp
  go_at_call 130
  refine (cmpi_any _ _ _).mono ?_
  rintro e w1 ⟨rfl, rfl⟩
  refine hK.out _ _ hS (fun _ => ?_)
  clear hK K
  have hS2 : Ext w (w.alloc (.cells #[Value.int .i64 (cmpN wa wb), Value.int .i64 (cmpN na nb)] 3)).drew := ((Mut.refl noB w).alloc _).drew
  have m0 : (w.alloc (.cells #[Value.int .i64 (cmpN wa wb), Value.int .i64 (cmpN na nb)] 3)).drew.cell? ⟨w.heap.size, 0, none⟩ = some (.int .i64 (cmpN wa wb)) := cell_of_heap (heap_alloc_self _ _) 0
  have m1 : (w.alloc (.cells #[Value.int .i64 (cmpN wa wb), Value.int .i64 (cmpN na nb)] 3)).drew.cell? ⟨w.heap.size, 1, none⟩ = some (.int .i64 (cmpN na nb)) := cell_of_heap (heap_alloc_self _ _) 1
  have HO2 := Lib.hid (or_any _ _ _ _ m0 m1)
  clear m0 m1
  generalize cmpN wa wb = x1 at hS2 HO2 HO ⊢
  generalize cmpN na nb = x2 at hS2 HO2 HO ⊢
  refine wpAnyH_ready (rs := [22]) (by kernel_rfl) (by simp) ?_
  refine AllReadyH.cons rfl (fun K hK => ?_) AllReadyH.nil
  go_simp
  refine hK.out _ _ hS2 (fun _ => ?_)
  clear hK K
  refine wpAnyH_ready (rs := [23]) (by kernel_rfl) (by simp) ?_
  refine AllReadyH.cons rfl (fun K hK => ?_) AllReadyH.nil
  go_simp
  go_at_call 128
  refine HO2.out.mono ?_
  rintro e w1 ⟨rfl, rfl⟩
  refine hK.out _ _ hS2 (fun _ => ?_)
  clear hK K
  refine wpAnyH_ready (rs := [24]) (by kernel_rfl) (by simp) ?_
  refine AllReadyH.cons rfl (fun K hK => ?_) AllReadyH.nil
  go_simp
  refine hK.out _ _ hS2 (fun _ => ?_)
  clear hK K
  refine wpAnyH_ready (rs := [25]) (by kernel_rfl) (by simp) ?_
  refine AllReadyH.cons rfl (fun K hK => ?_) AllReadyH.nil
  go_simp
  refine hK.out _ _ hS2 (fun _ => ?_)
  clear hK K
  refine wpAnyH_done (by kernel_rfl) ?_ _
  go_wp2_with fail
  go_ret
  rw [HO.out]
  exact ⟨rfl, hS2⟩
end Go.Proofs.YtjdglpngcdcneaaGreat

/- Layer 7: the heap of trees in memory: Swap. -/
namespace Go.Proofs.YtjdglpngcdcneaaGreat
open Go.RowKit
set_option linter.unusedVariables false
set_option linter.unusedSimpArgs false
set_option linter.unusedSectionVars false
theorem swap_cells (vs : Nat → Value) (l : List WN) (i k : Nat) (hi : i < l.length) (hk : k < l.length) :
    setN (setN (l.flatMap (trC vs)) (i * 3) (trC vs (hget l k))) (k * 3) (trC vs (hget l i)) = (hswap l i k).flatMap (trC vs) := by
  rw [flat_set (trC_len vs) l i hi, flat_set (trC_len vs) _ k (by rw [List.length_set]; exact hk)]
  rfl
set_option maxRecDepth 20000 in
set_option maxHeartbeats 4000000 in
theorem swap_st {S : Nat → Prop} {W w : World} {M : List Thing} {A : Option Addr} {n c : Nat} {vs : Nat → Value} {l : List WN} (hv : ∀ k, (vs k).oneCell' = true) (h : St S W w (ownT 109 3 (.slice A n c) n (l.flatMap (trC vs)) :: M)) (hl : l.length = n) (hn : n ≤ 1000000) (i k : Nat) (hi : i < n) (hk : k < n) :
    Calls Tryz.prog 127 #[.slice A n c, .int .i64 i, .int .i64 k] w fun e w' => e = .returned (.tuple #[]) ∧ St S W w' (ownT 109 3 (.slice A n c) n ((hswap l i k).flatMap (trC vs)) :: M) := by
  obtain ⟨g, rfl, hc⟩ := tr_cells h.own hl (by omega)
  obtain ⟨p0, p1, p2⟩ := hc i hi
  obtain ⟨q0, q1, q2⟩ := hc k hk
  have HSW := Lib.hid (swap_cells vs l i k (by omega) (by omega))
  have hd := h.ext ((Mut.refl noB w).drew)
  have va := hv (hget l i).2
  have vb := hv (hget l k).2
  generalize (hswap l i k).flatMap (trC vs) = R at HSW ⊢
  change Hid (setN (setN (l.flatMap (trC vs)) (i * 3) [.int .u64 (hget l k).1, .int .i64 (hget l k).2, vs (hget l k).2]) (k * 3) [.int .u64 (hget l i).1, .int .i64 (hget l i).2, vs (hget l i).2] = R) at HSW
  generalize vs (hget l i).2 = ua at p2 va HSW
  generalize vs (hget l k).2 = ub at q2 vb HSW
  generalize hget l i = a at p0 p1 HSW
  generalize hget l k = b at q0 q1 HSW
  obtain ⟨wa, na⟩ := a
  obtain ⟨wb, nb⟩ := b
  simp only at p0 p1 q0 q1
  clear hc h
  go_enter Tryz.func127, Tryz.ntmps127
  go_wp2_with fail
  refine wp_region_any (by kernel_rfl) ?_
  change wpAny _ _ _ _ _ _ _ (World.drew _)
  refine wpAny_take (i := 0) (v := ?_) rfl (by kernel_rfl) (by kernel_rfl) (by kernel_rfl) (fun _ _ _ h => h) (Or.inl ⟨by rfl, ?_⟩) ?_
  rotate_left
  · (intro w; go_simp; try with_reducible rfl)
  refine wpAny_take (i := 1) (v := ?_) rfl (by kernel_rfl) (by kernel_rfl) (by kernel_rfl) (fun _ _ _ h => h) (Or.inl ⟨by rfl, ?_⟩) ?_
  rotate_left
  · (intro w; go_simp; try with_reducible rfl)
  refine wpAny_take (i := 2) (v := ?_) rfl (by kernel_rfl) (by kernel_rfl) (by kernel_rfl) (fun _ _ _ h => h) (Or.inl ⟨by rfl, ?_⟩) ?_
  rotate_left
  · (intro w; go_simp; try with_reducible rfl)
  refine wpAny_take (i := 3) (v := ?_) rfl (by kernel_rfl) (by kernel_rfl) (by kernel_rfl) (fun _ _ _ h => h) (Or.inl ⟨by rfl, ?_⟩) ?_
  rotate_left
  · (intro w; go_simp; try with_reducible rfl)
  refine wpAny_take (i := 4) (v := ?_) rfl (by kernel_rfl) (by kernel_rfl) (by kernel_rfl) (fun _ _ _ h => h) (Or.inl ⟨by rfl, ?_⟩) ?_
  rotate_left
  · (intro w; go_simp; try with_reducible rfl)
  refine wpAny_take (i := 5) (v := ?_) rfl (by kernel_rfl) (by kernel_rfl) (by kernel_rfl) (fun _ _ _ h => h) (Or.inl ⟨by rfl, ?_⟩) ?_
  rotate_left
  · (intro w; go_simp; try with_reducible rfl)
  refine wpAny_take (i := 6) (v := ?_) rfl (by kernel_rfl) (by kernel_rfl) (by kernel_rfl) (fun _ _ _ h => h) (Or.inl ⟨by rfl, ?_⟩) ?_
  rotate_left
  · (intro w; go_simp; try with_reducible rfl)
  refine wpAny_take (i := 8) (v := ?_) rfl (by kernel_rfl) (by kernel_rfl) (by kernel_rfl) (fun _ _ _ h => h) (Or.inl ⟨by rfl, ?_⟩) ?_
  rotate_left
  · (intro w; go_simp; try with_reducible rfl)
  refine wpAny_take (i := 9) (v := ?_) rfl (by kernel_rfl) (by kernel_rfl) (by kernel_rfl) (fun _ _ _ h => h) (Or.inl ⟨by rfl, ?_⟩) ?_
  rotate_left
  · (intro w; go_simp; try with_reducible rfl)
  refine wpAny_take (i := 10) (v := ?_) rfl (by kernel_rfl) (by kernel_rfl) (by kernel_rfl) (fun _ _ _ h => h) (Or.inl ⟨by rfl, ?_⟩) ?_
  rotate_left
  · (intro w; go_simp; try with_reducible rfl)
  refine wpAny_ready (rs := [7, 11]) (by kernel_rfl) (by simp) ?_
  refine AllReady.cons rfl (fun K hK => ?_) ?_
  · go_simp
    refine hK _ _ ?_
    clear hK K
    refine wpAny_ready (rs := [11]) (by kernel_rfl) (by simp) ?_
    refine AllReady.cons rfl (fun K hK => ?_) AllReady.nil
    go_simp
    refine hK _ _ ?_
    clear hK K
    refine wpAny_ready (rs := [12]) (by kernel_rfl) (by simp) ?_
    refine AllReady.cons rfl (fun K hK => ?_) AllReady.nil
    go_simp
    refine hK _ _ ?_
    clear hK K
    refine wpAny_ready (rs := [13]) (by kernel_rfl) (by simp) ?_
    refine AllReady.cons rfl (fun K hK => ?_) AllReady.nil
    refine step_store_own rfl 109 _ _ rfl hd (i * 3) rfl [.int .u64 wb, .int .i64 nb, ub] rfl (by kernel_rfl) (by show i * 3 + 3 ≤ n * 3; omega) (by intro q hq; simp at hq; rcases hq with rfl | rfl | rfl <;> first | rfl | exact vb) (fun h1 => ?_)
    refine hK _ _ ?_
    clear hK K
    refine wpAny_ready (rs := [14]) (by kernel_rfl) (by simp) ?_
    refine AllReady.cons rfl (fun K hK => ?_) AllReady.nil
    go_simp
    refine hK _ _ ?_
    clear hK K
    refine wpAny_ready (rs := [15]) (by kernel_rfl) (by simp) ?_
    refine AllReady.cons rfl (fun K hK => ?_) AllReady.nil
    refine step_store_own rfl 109 _ _ rfl h1 (k * 3) rfl [.int .u64 wa, .int .i64 na, ua] rfl (by kernel_rfl) (by show k * 3 + 3 ≤ n * 3; omega) (by intro q hq; simp at hq; rcases hq with rfl | rfl | rfl <;> first | rfl | exact va) (fun h2 => ?_)
    refine hK _ _ ?_
    clear hK K
    refine wpAny_done (by kernel_rfl) ?_ _
    rw [HSW.out] at h2
    clear h1 hd
    go_wp2_with fail
    go_end0
    exact ⟨rfl, h2⟩
  · refine AllReady.cons rfl (fun K hK => ?_) AllReady.nil
    go_simp
    refine hK _ _ ?_
    clear hK K
    refine wpAny_ready (rs := [7]) (by kernel_rfl) (by simp) ?_
    refine AllReady.cons rfl (fun K hK => ?_) AllReady.nil
    go_simp
    refine hK _ _ ?_
    clear hK K
    refine wpAny_ready (rs := [12]) (by kernel_rfl) (by simp) ?_
    refine AllReady.cons rfl (fun K hK => ?_) AllReady.nil
    go_simp
    refine hK _ _ ?_
    clear hK K
    refine wpAny_ready (rs := [13]) (by kernel_rfl) (by simp) ?_
    refine AllReady.cons rfl (fun K hK => ?_) AllReady.nil
    refine step_store_own rfl 109 _ _ rfl hd (i * 3) rfl [.int .u64 wb, .int .i64 nb, ub] rfl (by kernel_rfl) (by show i * 3 + 3 ≤ n * 3; omega) (by intro q hq; simp at hq; rcases hq with rfl | rfl | rfl <;> first | rfl | exact vb) (fun h1 => ?_)
    refine hK _ _ ?_
    clear hK K
    refine wpAny_ready (rs := [14]) (by kernel_rfl) (by simp) ?_
    refine AllReady.cons rfl (fun K hK => ?_) AllReady.nil
    go_simp
    refine hK _ _ ?_
    clear hK K
    refine wpAny_ready (rs := [15]) (by kernel_rfl) (by simp) ?_
    refine AllReady.cons rfl (fun K hK => ?_) AllReady.nil
    refine step_store_own rfl 109 _ _ rfl h1 (k * 3) rfl [.int .u64 wa, .int .i64 na, ua] rfl (by kernel_rfl) (by show k * 3 + 3 ≤ n * 3; omega) (by intro q hq; simp at hq; rcases hq with rfl | rfl | rfl <;> first | rfl | exact va) (fun h2 => ?_)
    refine hK _ _ ?_
    clear hK K
    refine wpAny_done (by kernel_rfl) ?_ _
    rw [HSW.out] at h2
    clear h1 hd
    go_wp2_with fail
    go_end0
    exact ⟨rfl, h2⟩
end Go.Proofs.YtjdglpngcdcneaaGreat

/- Layer 7: the heap of trees behind an interface. -/
namespace Go.Proofs.YtjdglpngcdcneaaGreat
open Go.RowKit
set_option linter.unusedVariables false
set_option linter.unusedSimpArgs false
set_option linter.unusedSectionVars false
/-- a heap's address, as an interface's value -/
abbrev hpV (b : Nat) : Value := .iface 111 (.pointer (some ⟨b, 0, none⟩))
theorem run_load_slice {P : Program} {st e : TypeId} (hu2 : P.underlying st = some (.slice e)) (a : Addr) (v : Value) (w : World) (h0 : w.cell? a = some v) : (loadVar st a).run P w = .ok v w := by
  simp [loadVar, isAgg, underlying, hu2, load, h0, Result.andThen, Sem.run]
theorem wrapnil (xt ty : TypeId) (a : Addr) (x y : String) : Builtin.ssaWrapNilChk_ #[xt] ty #[.pointer (some a), strVal x, strVal y] = pure (.pointer (some a)) := rfl
theorem meth_val {P : Program} {pt st : TypeId} {name : String} {f : FuncId} {fuel : Nat} (hm : ((P.info? pt).bind fun i => (i.methods.find? (·.name == name)).map fun m => (m.path.toList, m.func)) = some ([], some (f, false)))
    (hu : P.underlying pt = some (.pointer st)) (e : TypeId) (hu2 : P.underlying st = some (.slice e))
    (b : Nat) (v : Value) (w : World) (h0 : w.cell? ⟨b, 0, none⟩ = some v) :
    (method (fuel + 1) pt (.pointer (some ⟨b, 0, none⟩)) name).run P w = .ok (f, v) w := by
  obtain ⟨i, hi, hm⟩ := Option.bind_eq_some_iff.1 hm
  obtain ⟨m, hm, he⟩ := Option.map_eq_some_iff.1 hm
  injection he with he1 he2
  have hp : m.path.isEmpty = true := by rw [Array.isEmpty_iff]; exact Array.toList_eq_nil_iff.1 he1
  have hl := run_load_slice hu2 ⟨b, 0, none⟩ v w h0
  have hp2 : m.path = #[] := Array.toList_eq_nil_iff.1 he1
  simp [method, typeInfo, hi, hm, he1, he2, hp2, follow, receiverAt, underlying, hu, Place.get, wrapnil, asAddr, hl, Result.andThen]
theorem meth_len (b : Nat) (v : Value) (w : World) (h0 : w.cell? ⟨b, 0, none⟩ = some v) : (method 279 111 (.pointer (some ⟨b, 0, none⟩)) "Len").run Tryz.prog w = .ok (125, v) w :=
  meth_val (by kernel_rfl) Tryz.underlying111 _ Tryz.underlying107 b v w h0
theorem len_any (A : Option Addr) (n c : Nat) (w : World) : Calls Tryz.prog 125 #[.slice A n c] w fun e w' => e = .returned (.int .i64 n) ∧ w = w' := by
  go_enter Tryz.func125, Tryz.ntmps125
  go_wp2
  go_ret
  exact ⟨rfl, rfl⟩
set_option maxRecDepth 20000 in
theorem several_any (b : Nat) (A : Option Addr) (n c : Nat) (w : World) (h0 : w.cell? ⟨b, 0, none⟩ = some (.slice A n c)) :
    Calls Tryz.prog 74 #[hpV b] w fun e w' => e = .returned (.bool (decide (1 < n))) ∧ w = w' := by
  have hm := meth_len b _ w h0
  go_enter Tryz.func74, Tryz.ntmps74
  go_wp2_with fail
  refine (len_any A n c _).mono ?_
  rintro e w1 ⟨rfl, rfl⟩
  go_wp2_with fail
  go_ret
  exact ⟨by rw [show decide ((1 : Int) < (n : Int)) = decide (1 < n) from decide_eq_decide.2 (by omega)]; rfl, rfl⟩
theorem meth_less (b : Nat) (v : Value) (w : World) (h0 : w.cell? ⟨b, 0, none⟩ = some v) : (method 279 111 (.pointer (some ⟨b, 0, none⟩)) "Less").run Tryz.prog w = .ok (126, v) w :=
  meth_val (by kernel_rfl) Tryz.underlying111 _ Tryz.underlying107 b v w h0
theorem meth_swap (b : Nat) (v : Value) (w : World) (h0 : w.cell? ⟨b, 0, none⟩ = some v) : (method 279 111 (.pointer (some ⟨b, 0, none⟩)) "Swap").run Tryz.prog w = .ok (127, v) w :=
  meth_val (by kernel_rfl) Tryz.underlying111 _ Tryz.underlying107 b v w h0
theorem hdown_end (f : Nat) (l : List WN) (i n : Nat) (h : n ≤ 2 * i + 1) : hdown f l i n = l := by
  cases f with
  | zero => rfl
  | succ f => rw [hdown, if_pos h]
/-- a heap in memory -/
def hpT (b : Nat) (A : Option Addr) (n c : Nat) (vs : Nat → Value) (l : List WN) (M : List Thing) : List Thing := blkT b #[.slice A n c] 107 :: ownT 109 3 (.slice A n c) n (l.flatMap (trC vs)) :: M
theorem hp_cell {S : Nat → Prop} {W w : World} {b : Nat} {A : Option Addr} {n c : Nat} {vs : Nat → Value} {l : List WN} {M : List Thing} (h : St S W w (hpT b A n c vs l M)) : w.cell? ⟨b, 0, none⟩ = some (.slice A n c) := cell_of_heap h.blk 0
theorem hp_less {S : Nat → Prop} {W w : World} {b : Nat} {A : Option Addr} {n c : Nat} {vs : Nat → Value} {l : List WN} {M : List Thing} (h : St S W w (hpT b A n c vs l M)) (hl : l.length = n) (hn : n ≤ 1000000) (i k : Nat) (I K : Int) (hi : i < n) (hk : k < n) (hI : I = i) (hK : K = k) :
    Calls Tryz.prog 126 #[.slice A n c, .int .i64 I, .int .i64 K] w fun e w' => e = .returned (.bool (wlt (hget l i) (hget l k))) ∧ St S W w' (hpT b A n c vs l M) := by
  subst hI hK
  exact (less_own h.swap.own hl hn i k hi hk).mono fun e w' ⟨he, x⟩ => ⟨he, h.ext x⟩
theorem hp_swap {S : Nat → Prop} {W w : World} {b : Nat} {A : Option Addr} {n c : Nat} {vs : Nat → Value} {l : List WN} {M : List Thing} (hv : ∀ k, (vs k).oneCell' = true) (h : St S W w (hpT b A n c vs l M)) (hl : l.length = n) (hn : n ≤ 1000000) (i k : Nat) (I K : Int) (hi : i < n) (hk : k < n) (hI : I = i) (hK : K = k) :
    Calls Tryz.prog 127 #[.slice A n c, .int .i64 I, .int .i64 K] w fun e w' => e = .returned (.tuple #[]) ∧ St S W w' (hpT b A n c vs (hswap l i k) M) := by
  subst hI hK
  exact (swap_st hv h.swap hl hn i k hi hk).mono fun e w' ⟨he, x⟩ => ⟨he, x.swap⟩
end Go.Proofs.YtjdglpngcdcneaaGreat

/- Layer 7: container/heap's down and up, on trees. -/
namespace Go.Proofs.YtjdglpngcdcneaaGreat
open Go.RowKit
set_option linter.unusedVariables false
set_option linter.unusedSimpArgs false
set_option linter.unusedSectionVars false
section
variable {S : Nat → Prop} {W : World} {b : Nat} {A : Option Addr} {n c : Nat} {vs : Nat → Value} {M : List Thing}
set_option maxRecDepth 20000 in
set_option maxHeartbeats 4000000 in
theorem down_st {w : World} {l : List WN} (hv : ∀ k, (vs k).oneCell' = true) (h : St S W w (hpT b A n c vs l M)) (hl : l.length = n) (hn : n ≤ 1000000) (i0 m f : Nat) (hi : i0 < n) (hm : m ≤ n) (hf : m ≤ i0 + f) :
    Calls Tryz.prog 98 #[hpV b, .int .i64 i0, .int .i64 m] w fun e w' => (∃ r, e = .returned (.bool r)) ∧ St S W w' (hpT b A n c vs (hdown f l i0 m) M) := by
  generalize hR : hdown f l i0 m = R
  have HR := Lib.hid hR
  clear hR
  go_enter Tryz.func98, Tryz.ntmps98
  go_wp2_with fail
  go_loopw [7] (fun v7 wr => ∃ (i : Nat) (l : List WN) (f : Nat), v7 = .int .i64 i ∧ i < n ∧ m ≤ i + f ∧ l.length = n ∧ Hid (hdown f l i m = R) ∧ St S W wr (hpT b A n c vs l M)) (fun v7 _ => n - (intOf v7).toNat)
  case atStart => exact ⟨i0, l, f, rfl, hi, hf, hl, HR, h⟩
  case round =>
    clear h hl HR hf
    obtain ⟨i, l, f, rfl, hi, hf, hl, HD, h⟩ := hrel
    by_cases h1 : m ≤ 2 * i + 1
    · have hz : (m : Int) ≤ 2 * (i : Int) + 1 := by omega
      have hD := HD.out
      rw [hdown_end f l i m h1] at hD
      have HD2 := Lib.hid hD
      clear hD HD h1
      go_wp2_with fail
      go_ret
      rw [← HD2.out]
      exact ⟨⟨_, rfl⟩, h⟩
    · obtain ⟨f, rfl⟩ : ∃ g, f = g + 1 := ⟨f - 1, by omega⟩
      have hz : ¬ (m : Int) ≤ 2 * (i : Int) + 1 := by omega
      have hD := HD.out
      rw [hdown, if_neg h1] at hD
      by_cases h2 : 2 * i + 2 < m
      · have hz2 : 2 * (i : Int) + 1 + 1 < (m : Int) := by omega
        have HL := Lib.hid (hp_less h hl hn (2 * i + 2) (2 * i + 1) (2 * (i : Int) + 1 + 1) (2 * (i : Int) + 1) (by omega) (by omega) (by omega) (by omega))
        have hmL := meth_less b _ wr (hp_cell h)
        generalize hb : wlt (hget l (2 * i + 2)) (hget l (2 * i + 1)) = q at HL
        have HB := Lib.hid hb
        clear hb h
        go_wp2_with fail
        refine HL.out.mono ?_
        rintro e w1 ⟨rfl, h⟩
        clear hmL HL
        cases q with
        | true =>
          have HC : Hid (hchild l i m = 2 * i + 2) := Lib.hid (by unfold hchild; rw [if_pos ⟨h2, HB.out⟩])
          clear HB
          have HL := Lib.hid (hp_less h hl hn (2*i+2) i (2*(i:Int)+1+1) (i : Int) (by omega) (by omega) (by omega) (by omega))
          have hmL := meth_less b _ _ (hp_cell h)
          generalize hb : wlt (hget l (2*i+2)) (hget l i) = q at HL
          have HB := Lib.hid hb
          clear hb
          go_wp2_with fail
          refine HL.out.mono ?_
          rintro e w2 ⟨rfl, h2⟩
          clear hmL HL h
          cases q with
          | false =>
            rw [HC.out, HB.out, if_neg (by simp)] at hD
            have HD2 := Lib.hid hD
            clear hD HB HC HD
            go_wp2_with fail
            go_ret
            rw [← HD2.out]
            exact ⟨⟨_, rfl⟩, h2⟩
          | true =>
            rw [HC.out, HB.out, if_pos rfl] at hD
            have HD2 := Lib.hid hD
            have HS := Lib.hid (hp_swap hv h2 hl hn i (2*i+2) (i : Int) (2*(i:Int)+1+1) (by omega) (by omega) (by omega) (by omega))
            have hmS := meth_swap b _ w2 (hp_cell h2)
            clear hD HB HC HD h2
            go_wp2_with fail
            refine HS.out.mono ?_
            rintro e w3 ⟨rfl, h3⟩
            clear hmS HS
            go_wp2_with fail
            go_roundw
            case rel => first | exact ⟨(2*i+2), hswap l i (2*i+2), f, by go_num, by omega, by omega, by rw [hswap_len]; exact hl, HD2, h3⟩ | ((repeat apply Exists.intro); exact ⟨⟨(2*i+2), hswap l i (2*i+2), f, by go_num, by omega, by omega, by rw [hswap_len]; exact hl, HD2, h3⟩, rfl⟩)
            case measure => first | (simp [intOf]; done) | (simp [intOf]; omega)
        | false =>
          have HC : Hid (hchild l i m = 2 * i + 1) := Lib.hid (by unfold hchild; rw [if_neg (fun h => by rw [HB.out] at h; cases h.2)])
          clear HB
          have HL := Lib.hid (hp_less h hl hn (2*i+1) i (2*(i:Int)+1) (i : Int) (by omega) (by omega) (by omega) (by omega))
          have hmL := meth_less b _ _ (hp_cell h)
          generalize hb : wlt (hget l (2*i+1)) (hget l i) = q at HL
          have HB := Lib.hid hb
          clear hb
          go_wp2_with fail
          refine HL.out.mono ?_
          rintro e w2 ⟨rfl, h2⟩
          clear hmL HL h
          cases q with
          | false =>
            rw [HC.out, HB.out, if_neg (by simp)] at hD
            have HD2 := Lib.hid hD
            clear hD HB HC HD
            go_wp2_with fail
            go_ret
            rw [← HD2.out]
            exact ⟨⟨_, rfl⟩, h2⟩
          | true =>
            rw [HC.out, HB.out, if_pos rfl] at hD
            have HD2 := Lib.hid hD
            have HS := Lib.hid (hp_swap hv h2 hl hn i (2*i+1) (i : Int) (2*(i:Int)+1) (by omega) (by omega) (by omega) (by omega))
            have hmS := meth_swap b _ w2 (hp_cell h2)
            clear hD HB HC HD h2
            go_wp2_with fail
            refine HS.out.mono ?_
            rintro e w3 ⟨rfl, h3⟩
            clear hmS HS
            go_wp2_with fail
            go_roundw
            case rel => first | exact ⟨(2*i+1), hswap l i (2*i+1), f, by go_num, by omega, by omega, by rw [hswap_len]; exact hl, HD2, h3⟩ | ((repeat apply Exists.intro); exact ⟨⟨(2*i+1), hswap l i (2*i+1), f, by go_num, by omega, by omega, by rw [hswap_len]; exact hl, HD2, h3⟩, rfl⟩)
            case measure => first | (simp [intOf]; done) | (simp [intOf]; omega)
      · have hz2 : ¬ 2 * (i : Int) + 1 + 1 < (m : Int) := by omega
        have HC : Hid (hchild l i m = 2 * i + 1) := Lib.hid (by unfold hchild; rw [if_neg (fun h => h2 h.1)])
        have HL := Lib.hid (hp_less h hl hn (2*i+1) i (2*(i:Int)+1) (i : Int) (by omega) (by omega) (by omega) (by omega))
        have hmL := meth_less b _ _ (hp_cell h)
        generalize hb : wlt (hget l (2*i+1)) (hget l i) = q at HL
        have HB := Lib.hid hb
        clear hb
        go_wp2_with fail
        refine HL.out.mono ?_
        rintro e w2 ⟨rfl, h2⟩
        clear hmL HL h
        cases q with
        | false =>
          rw [HC.out, HB.out, if_neg (by simp)] at hD
          have HD2 := Lib.hid hD
          clear hD HB HC HD
          go_wp2_with fail
          go_ret
          rw [← HD2.out]
          exact ⟨⟨_, rfl⟩, h2⟩
        | true =>
          rw [HC.out, HB.out, if_pos rfl] at hD
          have HD2 := Lib.hid hD
          have HS := Lib.hid (hp_swap hv h2 hl hn i (2*i+1) (i : Int) (2*(i:Int)+1) (by omega) (by omega) (by omega) (by omega))
          have hmS := meth_swap b _ w2 (hp_cell h2)
          clear hD HB HC HD h2
          go_wp2_with fail
          refine HS.out.mono ?_
          rintro e w3 ⟨rfl, h3⟩
          clear hmS HS
          go_wp2_with fail
          go_roundw
          case rel => first | exact ⟨(2*i+1), hswap l i (2*i+1), f, by go_num, by omega, by omega, by rw [hswap_len]; exact hl, HD2, h3⟩ | ((repeat apply Exists.intro); exact ⟨⟨(2*i+1), hswap l i (2*i+1), f, by go_num, by omega, by omega, by rw [hswap_len]; exact hl, HD2, h3⟩, rfl⟩)
          case measure => first | (simp [intOf]; done) | (simp [intOf]; omega)
end
end Go.Proofs.YtjdglpngcdcneaaGreat

/- Layer 7: container/heap's up, Init, Push, Pop, on trees. -/
namespace Go.Proofs.YtjdglpngcdcneaaGreat
open Go.RowKit
set_option linter.unusedVariables false
set_option linter.unusedSimpArgs false
set_option linter.unusedSectionVars false
section
variable {S : Nat → Prop} {W : World} {b : Nat} {A : Option Addr} {n c : Nat} {vs : Nat → Value} {M : List Thing}
set_option maxRecDepth 20000 in
set_option maxHeartbeats 4000000 in
theorem up_st {w : World} {l : List WN} (hv : ∀ k, (vs k).oneCell' = true) (h : St S W w (hpT b A n c vs l M)) (hl : l.length = n) (hn : n ≤ 1000000) (j0 f : Nat) (hj : j0 < n) (hf : j0 < f) :
    Calls Tryz.prog 101 #[hpV b, .int .i64 j0] w fun e w' => e = .returned (.tuple #[]) ∧ St S W w' (hpT b A n c vs (hup f l j0) M) := by
  generalize hR : hup f l j0 = R
  have HR := Lib.hid hR
  clear hR
  go_enter Tryz.func101, Tryz.ntmps101
  go_wp2_with fail
  go_loopw [1] (fun v1 wr => ∃ (j : Nat) (l : List WN) (f : Nat), v1 = .int .i64 j ∧ j < n ∧ j < f ∧ l.length = n ∧ Hid (hup f l j = R) ∧ St S W wr (hpT b A n c vs l M)) (fun v1 _ => (intOf v1).toNat)
  case atStart => exact ⟨j0, l, f, rfl, hj, hf, hl, HR, h⟩
  case round =>
    clear h hl HR hf
    obtain ⟨j, l, f, rfl, hj, hf, hl, HD, h⟩ := hrel
    obtain ⟨f, rfl⟩ : ∃ g, f = g + 1 := ⟨f - 1, by omega⟩
    have hD := HD.out
    rw [hup] at hD
    by_cases h0 : j = 0
    · subst h0
      rw [if_pos rfl] at hD
      have HD2 := Lib.hid hD
      clear hD HD
      go_wp2_with fail
      go_end0
      rw [← HD2.out]
      exact ⟨rfl, h⟩
    · rw [if_neg h0] at hD
      obtain ⟨p, hp⟩ : ∃ p, p = (j - 1) / 2 := ⟨_, rfl⟩
      rw [← hp] at hD
      have hq : Int.tdiv ((j : Int) - 1) 2 = (p : Int) := by rw [Int.tdiv_eq_ediv_of_nonneg (by omega)]; omega
      have hpj : p < j := by omega
      have HL := Lib.hid (hp_less h hl hn j p (j : Int) (p : Int) (by omega) (by omega) (by omega) (by omega))
      have hmL := meth_less b _ _ (hp_cell h)
      generalize hb : wlt (hget l j) (hget l p) = q at HL
      have HB := Lib.hid hb
      clear hp h0 hb
      go_wp2_with fail
      refine HL.out.mono ?_
      rintro e w2 ⟨rfl, h2⟩
      clear hmL HL h
      cases q with
      | false =>
        rw [HB.out, if_neg (by simp)] at hD
        have HD2 := Lib.hid hD
        clear hD HB HD
        go_wp2_with fail
        go_end0
        rw [← HD2.out]
        exact ⟨rfl, h2⟩
      | true =>
        rw [HB.out, if_pos rfl] at hD
        have HD2 := Lib.hid hD
        have HS := Lib.hid (hp_swap hv h2 hl hn p j (p : Int) (j : Int) (by omega) (by omega) (by omega) (by omega))
        have hmS := meth_swap b _ w2 (hp_cell h2)
        clear hD HB HD h2
        go_wp2_with fail
        refine HS.out.mono ?_
        rintro e w3 ⟨rfl, h3⟩
        clear hmS HS
        go_wp2_with fail
        go_roundw
        case rel => first | exact ⟨p, hswap l p j, f, by go_num, by omega, by omega, by rw [hswap_len]; exact hl, HD2, h3⟩ | ((repeat apply Exists.intro); exact ⟨⟨p, hswap l p j, f, by go_num, by omega, by omega, by rw [hswap_len]; exact hl, HD2, h3⟩, rfl⟩)
        case measure => first | (simp [intOf]; done) | (simp [intOf]; omega)
set_option maxRecDepth 20000 in
set_option maxHeartbeats 4000000 in
theorem init_st {w : World} {l : List WN} (hv : ∀ k, (vs k).oneCell' = true) (h : St S W w (hpT b A n c vs l M)) (hl : l.length = n) (hn : n ≤ 1000000) :
    Calls Tryz.prog 73 #[hpV b] w fun e w' => e = .returned (.tuple #[]) ∧ St S W w' (hpT b A n c vs (hinit (n / 2) l) M) := by
  generalize hR : hinit (n / 2) l = R
  have HR := Lib.hid hR
  clear hR
  have hm := meth_len b _ w (hp_cell h)
  obtain ⟨p, hp⟩ : ∃ p, p = n / 2 := ⟨_, rfl⟩
  have hq : Int.tdiv (n : Int) 2 = (p : Int) := by rw [Int.tdiv_eq_ediv_of_nonneg (by omega)]; omega
  rw [← hp] at HR
  have hpn : 2 * p ≤ n := by omega
  clear hp
  go_enter Tryz.func73, Tryz.ntmps73
  go_wp2_with fail
  refine (len_any A n c _).mono ?_
  rintro e w1 ⟨rfl, rfl⟩
  clear hm
  go_wp2_with fail
  go_loopw [3] (fun v3 wr => ∃ (i : Nat) (l : List WN), v3 = .int .i64 ((i : Int) - 1) ∧ 2 * i ≤ n ∧ l.length = n ∧ Hid (hinit i l = R) ∧ St S W wr (hpT b A n c vs l M)) (fun v3 _ => (intOf v3 + 1).toNat)
  case atStart => exact ⟨p, l, by go_num, hpn, hl, HR, h⟩
  case round =>
    clear h hl HR hq
    obtain ⟨i, l, rfl, hi, hl, HD, h⟩ := hrel
    cases i with
    | zero =>
      have hD : l = R := HD.out
      have HD2 := Lib.hid hD
      clear hD HD
      go_wp2_with fail
      go_end0
      rw [← HD2.out]
      exact ⟨rfl, h⟩
    | succ i =>
      have hD := HD.out
      rw [hinit, hl] at hD
      have HD2 := Lib.hid hD
      have HC := Lib.hid (down_st hv h hl hn i n n (by omega) (Nat.le_refl _) (by omega))
      have hlen : (hdown n l i n).length = n := by rw [hdown_len]; exact hl
      generalize hdown n l i n = l2 at HD2 HC hlen
      have hz : ((i + 1 : Nat) : Int) - 1 = (i : Int) := by omega
      clear hD HD h
      go_wp2_with fail
      rw [hz]
      refine HC.out.mono ?_
      rintro e w1 ⟨⟨r, rfl⟩, h⟩
      clear HC
      go_wp2_with fail
      go_roundw
      case rel => first | exact ⟨i, l2, by go_num, by omega, hlen, HD2, h⟩ | ((repeat apply Exists.intro); exact ⟨⟨i, l2, by go_num, by omega, hlen, HD2, h⟩, rfl⟩)
      case measure => first | (simp [intOf]; done) | (simp [intOf]; omega)
end
end Go.Proofs.YtjdglpngcdcneaaGreat

/- Layer 7: container/heap's Push and Pop, on trees. -/
namespace Go.Proofs.YtjdglpngcdcneaaGreat
open Go.RowKit
set_option linter.unusedVariables false
set_option linter.unusedSimpArgs false
set_option linter.unusedSectionVars false
theorem meth_ptr {P : Program} {pt st : TypeId} {name : String} {f : FuncId} {fuel : Nat} (hm : ((P.info? pt).bind fun i => (i.methods.find? (·.name == name)).map fun m => (m.path.toList, m.func)) = some ([], some (f, true)))
    (hu : P.underlying pt = some (.pointer st)) (v : Value) (w : World) : (method (fuel + 1) pt v name).run P w = .ok (f, v) w := by
  obtain ⟨i, hi, hm⟩ := Option.bind_eq_some_iff.1 hm
  obtain ⟨m, hm, he⟩ := Option.map_eq_some_iff.1 hm
  injection he with he1 he2
  have hp2 : m.path = #[] := Array.toList_eq_nil_iff.1 he1
  simp [method, typeInfo, hi, hm, he1, he2, hp2, follow, receiverAt, underlying, hu, Place.get, Result.andThen]
theorem meth_push (v : Value) (w : World) : (method 279 111 v "Push").run Tryz.prog w = .ok (134, v) w :=
  meth_ptr (by kernel_rfl) Tryz.underlying111 v w
theorem meth_pop (v : Value) (w : World) : (method 279 111 v "Pop").run Tryz.prog w = .ok (133, v) w :=
  meth_ptr (by kernel_rfl) Tryz.underlying111 v w
theorem Own.shrink {w : World} {e : TypeId} {size : Nat} {A : Option Addr} {n c m : Nat} {xs : List Value} (h : Own w e size (.slice A n c) n xs) (hm : m ≤ n) : Own w e size (.slice A m c) m (xs.take (m * size)) := by
  have hl := h.len
  have h1 : m * size ≤ n * size := Nat.mul_le_mul_right _ hm
  refine ⟨by rw [List.length_take]; omega, ?_⟩
  rcases h.2 with ⟨e1, e2⟩ | ⟨g, cap, cur, e1, h2, h3, h4, h5, h6, h7⟩
  · injection e1 with a1 a2 a3
    subst a1 e2 a3
    obtain rfl : m = 0 := by omega
    exact .inl ⟨rfl, rfl⟩
  · injection e1 with a1 a2 a3
    subst a1 a3
    exact .inr ⟨g, c, cur, rfl, h2, h3, by omega, h5, h6, by rw [← h7, List.take_take, Nat.min_eq_left h1]⟩
theorem St.shrink {S : Nat → Prop} {W w : World} {e : TypeId} {size : Nat} {A : Option Addr} {n c m : Nat} {xs : List Value} {L : List Thing} (h : St S W w (ownT e size (.slice A n c) n xs :: L)) (hm : m ≤ n) : St S W w (ownT e size (.slice A m c) m (xs.take (m * size)) :: L) :=
  h.upd fun fp h1 => ⟨fp, ⟨h1.1.shrink hm, by rw [h1.2]; cases A <;> rfl⟩, Mut.refl _ _, fun k hk => .inl hk⟩
theorem run_assert {P : Program} {t : TypeId} {d : TypeDesc} (hu : P.underlying t = some d) (hd : (match d with | .interface _ => false | _ => true) = true) (xt : TypeId) (v : Value) (w : World) : (Instr.typeAssert (.iface t v) xt t false).run P w = .ok v w := by
  cases d <;> simp at hd <;> simp [Instr.typeAssert, underlying, hu, Result.andThen]
theorem assert_tree (v : Value) (w : World) : (Instr.typeAssert (.iface 109 v) 20 109 false).run Tryz.prog w = .ok v w := run_assert Tryz.underlying109 rfl _ v w
theorem tree_info : (Tryz.prog.info? 109).map (fun i => (i.zero, i.size, i.bytes)) = some (some (.agg #[.int .u64 0, .int .i64 0, .slice none 0 0]), 3, 40) := by kernel_rfl
section
variable {S : Nat → Prop} {W : World} {b : Nat} {A : Option Addr} {n c : Nat} {vs : Nat → Value} {M : List Thing}
set_option maxRecDepth 20000 in
set_option maxHeartbeats 4000000 in
theorem tpush_st {w : World} {l : List WN} (h : St S W w (hpT b A n c vs l M)) (hn : n ≤ 1000000) (xw xn : Nat) (hvx : (vs xn).oneCell' = true) :
    Calls Tryz.prog 134 #[.pointer (some ⟨b, 0, none⟩), .iface 109 (.agg #[.int .u64 xw, .int .i64 xn, vs xn])] w fun e w' => e = .returned (.tuple #[]) ∧ ∃ A' c', St S W w' (hpT b A' (n + 1) c' vs (l ++ [(xw, xn)]) M) := by
  have hd := h.ext ((Mut.refl noB w).drew)
  have hp := hp_cell h
  have hpd := fun o : Obj => Ext.cell ((Mut.refl noB w).alloc o) hp
  have ha := fun w => assert_tree (.agg #[.int .u64 xw, .int .i64 xn, vs xn]) w
  clear h
  go_enter Tryz.func134, Tryz.ntmps134
  go_wp2_with fail
  refine wp_region_any (by kernel_rfl) ?_
  change wpAny _ _ _ _ _ _ _ (World.drew _)
  refine wpAny_take (i := 0) (v := ?_) rfl (by kernel_rfl) (by kernel_rfl) (by kernel_rfl) (fun _ _ _ h => h) (Or.inl ⟨by rfl, ?_⟩) ?_
  rotate_left
  · (intro w; go_simp; try with_reducible rfl)
  refine wpAny_take (i := 1) (v := ?_) rfl (by kernel_rfl) (by kernel_rfl) (by kernel_rfl) (fun _ _ _ h => h) (Or.inl ⟨by rfl, ?_⟩) ?_
  rotate_left
  · (intro w; go_simp; try with_reducible rfl)
  refine wpAny_take (i := 2) (v := ?_) rfl (by kernel_rfl) (by kernel_rfl) (by kernel_rfl) (fun _ _ _ h => h) (Or.inl ⟨by rfl, ?_⟩) ?_
  rotate_left
  · (intro w; go_simp; try with_reducible rfl)
  refine wpAny_take (i := 4) (v := ?_) rfl (by kernel_rfl) (by kernel_rfl) (by kernel_rfl) (fun _ _ _ h => h) (Or.inl ⟨by rfl, ?_⟩) ?_
  rotate_left
  · (intro w; go_simp; try with_reducible rfl)
  refine wpAny_take (i := 5) (v := ?_) rfl (by kernel_rfl) (by kernel_rfl) (by kernel_rfl) (fun _ _ _ h => h) (Or.inl ⟨by rfl, ?_⟩) ?_
  rotate_left
  · (intro w; go_simp; try with_reducible rfl)
  refine wpAny_ready (rs := [3, 6]) (by kernel_rfl) (by simp) ?_
  refine AllReady.cons rfl (fun K hK => ?_) ?_
  · go_simp
    refine hK _ _ ?_
    clear hK K
    refine wpAny_ready (rs := [6]) (by kernel_rfl) (by simp) ?_
    refine AllReady.cons rfl (fun K hK => ?_) AllReady.nil
    go_simp
    refine hK _ _ ?_
    clear hK K
    refine wpAny_ready (rs := [7]) (by kernel_rfl) (by simp) ?_
    refine AllReady.cons rfl (fun K hK => ?_) AllReady.nil
    refine step_push rfl _ _ _ rfl 109 (.agg #[.int .u64 0, .int .i64 0, .slice none 0 0]) 3 40 Tryz.underlying107 tree_info rfl (by decide) hd.swap rfl rfl rfl (by intro q hq; simp at hq; rcases hq with rfl | rfl | rfl <;> first | rfl | exact hvx) (by unfold maxLen; omega) (by omega) ?_
    intro A' c' w5 g4
    have hp5 := cell_of_heap g4.swap.blk 0
    have hf5 := free_of_heap g4.swap.blk 0
    change w5.cell? _ = some (Value.slice A n c) at hp5
    have g5 := g4.swap.set 0 (.slice A' (n + 1) c')
    refine hK _ _ ?_
    clear hK K g4
    refine wpAny_ready (rs := [8]) (by kernel_rfl) (by simp) ?_
    refine AllReady.cons rfl (fun K hK => ?_) AllReady.nil
    go_simp
    refine hK _ _ ?_
    clear hK K
    refine wpAny_ready (rs := [9]) (by kernel_rfl) (by simp) ?_
    refine AllReady.cons rfl (fun K hK => ?_) AllReady.nil
    go_simp
    refine hK _ _ ?_
    clear hK K
    refine wpAny_done (by kernel_rfl) ?_ _
    go_wp2_with fail
    go_end0
    refine ⟨rfl, A', c', ?_⟩
    have e : l.flatMap (trC vs) ++ [Value.int .u64 xw, Value.int .i64 xn, vs xn] = (l ++ [(xw, xn)]).flatMap (trC vs) := by rw [List.flatMap_append, List.flatMap_singleton]; rfl
    unfold hpT
    rw [← e]
    exact g5
  · refine AllReady.cons rfl (fun K hK => ?_) AllReady.nil
    go_simp
    refine hK _ _ ?_
    clear hK K
    refine wpAny_ready (rs := [3]) (by kernel_rfl) (by simp) ?_
    refine AllReady.cons rfl (fun K hK => ?_) AllReady.nil
    go_simp
    refine hK _ _ ?_
    clear hK K
    refine wpAny_ready (rs := [7]) (by kernel_rfl) (by simp) ?_
    refine AllReady.cons rfl (fun K hK => ?_) AllReady.nil
    refine step_push rfl _ _ _ rfl 109 (.agg #[.int .u64 0, .int .i64 0, .slice none 0 0]) 3 40 Tryz.underlying107 tree_info rfl (by decide) hd.swap rfl rfl rfl (by intro q hq; simp at hq; rcases hq with rfl | rfl | rfl <;> first | rfl | exact hvx) (by unfold maxLen; omega) (by omega) ?_
    intro A' c' w5 g4
    have hp5 := cell_of_heap g4.swap.blk 0
    have hf5 := free_of_heap g4.swap.blk 0
    change w5.cell? _ = some (Value.slice A n c) at hp5
    have g5 := g4.swap.set 0 (.slice A' (n + 1) c')
    refine hK _ _ ?_
    clear hK K g4
    refine wpAny_ready (rs := [8]) (by kernel_rfl) (by simp) ?_
    refine AllReady.cons rfl (fun K hK => ?_) AllReady.nil
    go_simp
    refine hK _ _ ?_
    clear hK K
    refine wpAny_ready (rs := [9]) (by kernel_rfl) (by simp) ?_
    refine AllReady.cons rfl (fun K hK => ?_) AllReady.nil
    go_simp
    refine hK _ _ ?_
    clear hK K
    refine wpAny_done (by kernel_rfl) ?_ _
    go_wp2_with fail
    go_end0
    refine ⟨rfl, A', c', ?_⟩
    have e : l.flatMap (trC vs) ++ [Value.int .u64 xw, Value.int .i64 xn, vs xn] = (l ++ [(xw, xn)]).flatMap (trC vs) := by rw [List.flatMap_append, List.flatMap_singleton]; rfl
    unfold hpT
    rw [← e]
    exact g5
end
end Go.Proofs.YtjdglpngcdcneaaGreat

/- Layer 7: container/heap's Push and Pop, and least, on trees. -/
namespace Go.Proofs.YtjdglpngcdcneaaGreat
open Go.RowKit
set_option linter.unusedVariables false
set_option linter.unusedSimpArgs false
set_option linter.unusedSectionVars false
theorem results_one {P : Program} {fn : Func} {p : Tmp} {ty : TypeId} (h : fn.results = #[.cell p ty]) (tmps : Array Value) (w : World) (g : Nat) (t : TypeId) (cs : Array Value) (fr : Nat × Nat) (d : TypeDesc)
    (hp : tmps.getD p undef = .pointer (some ⟨g, 0, none⟩)) (hg : w.heap[g]? = some (.cells cs t fr))
    (hu : P.underlying ty = some d) (hd : (match d with | .struct _ | .array _ _ => true | _ => false) = true) (hi : (P.info? ty).map (·.size) = some cs.size) :
    (results fn tmps).run P w = .ok (.agg cs) w := by
  rw [Array.getD_eq_getD_getElem?] at hp
  simp only [results, h]
  simp [Sem.run_bind, Result.andThen, hp, asAddr, run_loadVar_row w g t ty cs fr d hg hu hd hi]
section
variable {S : Nat → Prop} {W : World} {b : Nat} {A : Option Addr} {n c : Nat} {vs : Nat → Value} {M : List Thing}
set_option maxRecDepth 20000 in
set_option maxHeartbeats 4000000 in
theorem push_st {w : World} {l : List WN} (hv : ∀ k, (vs k).oneCell' = true) (h : St S W w (hpT b A n c vs l M)) (hl : l.length = n) (hn : n < 1000000) (xw xn : Nat) :
    Calls Tryz.prog 77 #[hpV b, .iface 109 (.agg #[.int .u64 xw, .int .i64 xn, vs xn])] w fun e w' => e = .returned (.tuple #[]) ∧ ∃ A' c', St S W w' (hpT b A' (n + 1) c' vs (hpush l (xw, xn)) M) := by
  have HT := Lib.hid (tpush_st h (by omega) xw xn (hv xn))
  have hm := fun w => meth_push (.pointer (some ⟨b, 0, none⟩)) w
  clear h
  go_enter Tryz.func77, Tryz.ntmps77
  go_wp2_with fail
  refine HT.out.mono ?_
  rintro e w1 ⟨rfl, A', c', h1⟩
  clear HT hm
  have hm := meth_len b _ w1 (hp_cell h1)
  have HU := Lib.hid (up_st hv h1 (by rw [List.length_append, hl]; rfl) (by omega) n (l.length + 1) (by omega) (by omega))
  have e1 : hup (l.length + 1) (l ++ [(xw, xn)]) n = hpush l (xw, xn) := by rw [← hl]; rfl
  rw [e1] at HU
  have hz : ((n + 1 : Nat) : Int) - 1 = (n : Int) := by omega
  clear h1 e1
  go_wp2_with fail
  refine (len_any A' (n + 1) c' _).mono ?_
  rintro e w2 ⟨rfl, rfl⟩
  clear hm
  go_wp2_with fail
  refine HU.out.mono ?_
  rintro e w3 ⟨rfl, h3⟩
  go_wp2_with fail
  go_end0
  exact ⟨rfl, A', c', h3⟩
set_option maxRecDepth 20000 in
set_option maxHeartbeats 4000000 in
theorem tpop_st {w : World} {l : List WN} (hv : ∀ k, ∃ A n c, vs k = .slice A n c) (h : St S W w (hpT b A (n + 1) c vs l M)) (hl : l.length = n + 1) (hn : n < 1000000) :
    Calls Tryz.prog 133 #[.pointer (some ⟨b, 0, none⟩)] w fun e w' => e = .returned (.iface 109 (.agg (trC vs (hget l n)).toArray)) ∧ St S W w' (hpT b A n c vs (l.take n) M) := by
  have hp := hp_cell h
  have hf := free_of_heap h.blk 0
  obtain ⟨g, hA, hc⟩ := tr_cells h.swap.own hl (by omega)
  obtain ⟨k0, k1, k2⟩ := hc n (by omega)
  clear hc
  subst hA
  unfold trC
  have va := hv (hget l n).2
  generalize vs (hget l n).2 = v at k2 va ⊢
  obtain ⟨A2, n2, c2, rfl⟩ := va
  generalize hget l n = x at k0 k1 ⊢
  obtain ⟨xw, xn⟩ := x
  simp only at k0 k1 ⊢
  have hz : ((n + 1 : Nat) : Int) - 1 = (n : Int) := by omega
  have h2 := h.alloc #[Value.int .u64 xw, Value.int .i64 xn, Value.slice A2 n2 c2] 109
  have hp2 := cell_of_heap h2.swap.blk 0
  have hf2 := free_of_heap h2.swap.blk 0
  change World.cell? _ _ = some (Value.slice (some ⟨g, 0, none⟩) (n + 1) c) at hp2
  have h3 := h2.swap.set 0 (.slice (some ⟨g, 0, none⟩) n c)
  have j0 := cell_of_heap h3.swap.blk 0
  have j1 := cell_of_heap h3.swap.blk 1
  have j2 := cell_of_heap h3.swap.blk 2
  change World.cell? _ _ = some (Value.int .u64 xw) at j0
  change World.cell? _ _ = some (Value.int .i64 xn) at j1
  change World.cell? _ _ = some (Value.slice A2 n2 c2) at j2
  have hc2 : n ≤ c := by
    obtain ⟨q1, q2, e, q3, hc1, q4⟩ := h.swap.own.slice (by omega)
    simp only [Value.slice.injEq, Option.some.injEq, Addr.mk.injEq] at e
    omega
  have hlist : (l.flatMap (trC vs)).take (n * 3) = (l.take n).flatMap (trC vs) := flat_take' (trC_len vs) l n (by omega)
  have h4 := ((h3.pull 2).shrink (m := n) (by omega))
  rw [hlist] at h4
  have h5 := (h4.swap.under (fun _ ht => ht.swap)).pull 1
  have HS := Lib.hid h5
  clear h h2 h3 h4 h5 hlist hl
  go_enter Tryz.func133, Tryz.ntmps133
  go_wp2_with fail
  go_ret
  exact ⟨rfl, HS.out.drop⟩
end
end Go.Proofs.YtjdglpngcdcneaaGreat

/- Layer 7: the least tree is taken off. -/
namespace Go.Proofs.YtjdglpngcdcneaaGreat
open Go.RowKit
set_option linter.unusedVariables false
set_option linter.unusedSimpArgs false
set_option linter.unusedSectionVars false
section
variable {S : Nat → Prop} {W : World} {b : Nat} {A : Option Addr} {n c : Nat} {vs : Nat → Value} {M : List Thing}
theorem vs_one (hv : ∀ k, ∃ A n c, vs k = .slice A n c) (k : Nat) : (vs k).oneCell' = true := by obtain ⟨A, n, c, e⟩ := hv k; rw [e]; rfl
set_option maxRecDepth 20000 in
set_option maxHeartbeats 4000000 in
theorem pop_st {w : World} {l : List WN} (hv : ∀ k, ∃ A n c, vs k = .slice A n c) (h : St S W w (hpT b A (n + 1) c vs l M)) (hl : l.length = n + 1) (hn : n < 1000000) :
    Calls Tryz.prog 99 #[hpV b] w fun e w' => e = .returned (.iface 109 (.agg (trC vs (hget l 0)).toArray)) ∧ St S W w' (hpT b A n c vs ((hpop l).take n) M) := by
  have hm := meth_len b _ w (hp_cell h)
  have hmS := meth_swap b _ w (hp_cell h)
  have hmP := fun w => meth_pop (.pointer (some ⟨b, 0, none⟩)) w
  have hz : ((n + 1 : Nat) : Int) - 1 = (n : Int) := by omega
  have HS := Lib.hid (hp_swap (vs_one hv) h hl (by omega) 0 n 0 (n : Int) (by omega) (by omega) rfl rfl)
  have e1 : hdown n (hswap l 0 n) 0 n = hpop l := by unfold hpop; rw [hl]; rfl
  have e2 : hget (hpop l) n = hget l 0 := by have := hpop_last l (by omega); rw [hl] at this; exact this
  have hl2 := hswap_len l 0 n
  have hl3 := hpop_len l
  rw [hl] at hl2 hl3
  generalize hswap l 0 n = l2 at HS e1 hl2
  rw [← e1] at e2 hl3 ⊢
  have HD := Lib.hid (fun w (h : St S W w (hpT b A (n + 1) c vs l2 M)) => down_st (vs_one hv) h hl2 (by omega) 0 n n (by omega) (by omega) (by omega))
  generalize hdown n l2 0 n = l3 at HD e2 hl3 ⊢
  rw [show ((0 : Nat) : Int) = 0 from rfl] at HD
  have HP := Lib.hid (fun w (h : St S W w (hpT b A (n + 1) c vs l3 M)) => tpop_st hv h hl3 hn)
  rw [e2] at HP
  generalize (trC vs (hget l 0)).toArray = R at HP ⊢
  clear h e1 e2 hl2 hl3 hl
  go_enter Tryz.func99, Tryz.ntmps99
  go_wp2_with fail
  refine (len_any A (n + 1) c _).mono ?_
  rintro e w1 ⟨rfl, rfl⟩
  clear hm
  go_wp2_with fail
  refine HS.out.mono ?_
  rintro e w2 ⟨rfl, h2⟩
  clear hmS HS
  go_wp2_with fail
  refine (HD.out _ h2).mono ?_
  rintro e w3 ⟨⟨r, rfl⟩, h3⟩
  clear h2 HD
  go_wp2_with fail
  refine (HP.out _ h3).mono ?_
  rintro e w4 ⟨rfl, h4⟩
  clear h3 HP hmP
  go_wp2_with fail
  go_ret
  exact ⟨rfl, h4⟩
set_option maxRecDepth 20000 in
set_option maxHeartbeats 4000000 in
theorem least_st {w : World} {l : List WN} (hv : ∀ k, ∃ A n c, vs k = .slice A n c) (h : St S W w (hpT b A (n + 1) c vs l M)) (hl : l.length = n + 1) (hn : n < 1000000) :
    Calls Tryz.prog 75 #[hpV b] w fun e w' => e = .returned (.agg (trC vs (hget l 0)).toArray) ∧ St S W w' (hpT b A n c vs ((hpop l).take n) M) := by
  have h1 : St S W (w.alloc (.cells #[.int .u64 0, .int .i64 0, .slice none 0 0] 109)) (hpT b A (n + 1) c vs l (blkT w.heap.size #[.int .u64 0, .int .i64 0, .slice none 0 0] 109 :: M)) :=
    ((h.alloc #[.int .u64 0, .int .i64 0, .slice none 0 0] 109).swap).under (fun _ ht => ht.swap)
  have HP := Lib.hid (pop_st hv h1 hl hn)
  unfold trC at HP ⊢
  have hv0 := hv (hget l 0).2
  generalize vs (hget l 0).2 = v at HP hv0 ⊢
  obtain ⟨A2, n2, c2, rfl⟩ := hv0
  generalize hget l 0 = x at HP ⊢
  obtain ⟨xw, xn⟩ := x
  simp only at HP ⊢
  have ha := fun w => assert_tree (.agg #[.int .u64 xw, .int .i64 xn, .slice A2 n2 c2]) w
  clear h h1
  go_enter Tryz.func75, Tryz.ntmps75
  go_wp2_with fail
  refine HP.out.mono ?_
  rintro e w1 ⟨rfl, h2⟩
  clear HP
  generalize w.heap.size = x at h2 ⊢
  have hx7 := (h2.pull 2).blk
  have h3 := (h2.pull 2).row #[.int .u64 xw, .int .i64 xn, .slice A2 n2 c2]
  clear h2
  go_wp2_with (refine wpList_store_row rfl _ _ _ rfl x #[.int .u64 xw, .int .i64 xn, .slice A2 n2 c2] rfl rfl 109 _ hx7 (by kernel_rfl) rfl (by simp [Value.oneCell']) ?_)
  refine bodyPost_ret_by (results_one rfl _ _ x 109 _ (0, 0) _ rfl h3.blk Tryz.underlying109 rfl (by kernel_rfl)) rfl ?_
  exact ⟨rfl, h3.drop⟩
end
end Go.Proofs.YtjdglpngcdcneaaGreat
