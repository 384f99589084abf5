/- Layer 7: a heap of weights and numbers, plain: what is popped is the least one. No program here. -/
namespace Go.Proofs.Ytclhmlgbhlmekaa
set_option linter.unusedVariables false
set_option linter.unusedSimpArgs false
abbrev WN := Nat × Nat
def wlt (a b : WN) : Bool := decide (a.1 < b.1) || (decide (a.1 = b.1) && decide (a.2 < b.2))
theorem wlt_iff (a b : WN) : wlt a b = true ↔ (a.1 < b.1 ∨ (a.1 = b.1 ∧ a.2 < b.2)) := by unfold wlt; simp
theorem wlt_no (a b : WN) : wlt a b = false ↔ (b.1 < a.1 ∨ (a.1 = b.1 ∧ b.2 ≤ a.2)) := by
  rw [Bool.eq_false_iff, Ne, wlt_iff]; omega
/-- at most: not greater -/
def wle (a b : WN) : Prop := wlt b a = false
theorem wle_refl (a : WN) : wle a a := by unfold wle; rw [wlt_no]; omega
theorem wle_trans {a b c : WN} (h : wle a b) (k : wle b c) : wle a c := by
  unfold wle at *; rw [wlt_no] at *; omega
theorem wle_of_lt {a b : WN} (h : wlt a b = true) : wle a b := by
  unfold wle; rw [wlt_iff] at h; rw [wlt_no]; omega
theorem wle_antisymm {a b : WN} (h : wle a b) (k : wle b a) : a = b := by
  unfold wle at *; rw [wlt_no] at *; exact Prod.ext (by omega) (by omega)
def hget (l : List WN) (i : Nat) : WN := l.getD i (0, 0)
theorem hget_lt (l : List WN) (i : Nat) (h : i < l.length) : hget l i = l[i] := by
  unfold hget; rw [List.getD_eq_getElem?_getD, List.getElem?_eq_getElem h]; rfl
def hswap (l : List WN) (i j : Nat) : List WN := (l.set i (hget l j)).set j (hget l i)
theorem hswap_len (l : List WN) (i j : Nat) : (hswap l i j).length = l.length := by unfold hswap; simp
theorem hswap_perm (l : List WN) (i j : Nat) (hi : i < l.length) (hj : j < l.length) : (hswap l i j).Perm l := by
  unfold hswap
  rw [hget_lt l i hi, hget_lt l j hj]
  have := Array.swap_perm (xs := l.toArray) (i := i) (j := j) (by simpa using hi) (by simpa using hj)
  have h := Array.perm_iff_toList_perm.1 this
  simpa [Array.swap] using h
theorem hget_set (l : List WN) (i : Nat) (x : WN) (k : Nat) : hget (l.set i x) k = if i = k ∧ k < l.length then x else hget l k := by
  unfold hget
  rw [List.getD_eq_getElem?_getD, List.getD_eq_getElem?_getD, List.getElem?_set]
  by_cases h : i = k
  · subst h
    by_cases h2 : i < l.length
    · rw [if_pos rfl, if_pos h2, if_pos ⟨rfl, h2⟩]; rfl
    · rw [if_pos rfl, if_neg h2, if_neg (fun h => h2 h.2), List.getElem?_eq_none (by omega)]
  · rw [if_neg h, if_neg (fun h2 => h h2.1)]
theorem hget_swap (l : List WN) (i j k : Nat) (hi : i < l.length) (hj : j < l.length) : hget (hswap l i j) k = if k = j then hget l i else if k = i then hget l j else hget l k := by
  unfold hswap
  rw [hget_set, hget_set, List.length_set]
  by_cases h1 : k = j
  · subst h1; rw [if_pos ⟨rfl, hj⟩, if_pos rfl]
  · rw [if_neg (fun h => h1 h.1.symm), if_neg h1]
    by_cases h2 : k = i
    · subst h2; rw [if_pos ⟨rfl, hi⟩, if_pos rfl]
    · rw [if_neg (fun h => h2 h.1.symm), if_neg h2]
/-- container/heap's down, from i, of n -/
def hchild (l : List WN) (i n : Nat) : Nat := if 2 * i + 2 < n ∧ wlt (hget l (2 * i + 2)) (hget l (2 * i + 1)) = true then 2 * i + 2 else 2 * i + 1
def hdown : Nat → List WN → Nat → Nat → List WN
  | 0, l, _, _ => l
  | f + 1, l, i, n =>
    if n ≤ 2 * i + 1 then l
    else if wlt (hget l (hchild l i n)) (hget l i) = true then hdown f (hswap l i (hchild l i n)) (hchild l i n) n else l
def hup : Nat → List WN → Nat → List WN
  | 0, l, _ => l
  | f + 1, l, j => if j = 0 then l else if wlt (hget l j) (hget l ((j - 1) / 2)) = true then hup f (hswap l ((j - 1) / 2) j) ((j - 1) / 2) else l
def hinit : Nat → List WN → List WN
  | 0, l => l
  | i + 1, l => hinit i (hdown l.length l i l.length)
def hpush (l : List WN) (x : WN) : List WN := hup (l.length + 1) (l ++ [x]) l.length
def hpop (l : List WN) : List WN := hdown (l.length - 1) (hswap l 0 (l.length - 1)) 0 (l.length - 1)
theorem hchild_bound (l : List WN) (i n : Nat) (h : ¬ n ≤ 2 * i + 1) : hchild l i n < n ∧ (hchild l i n = 2 * i + 1 ∨ hchild l i n = 2 * i + 2) := by
  unfold hchild
  split
  · rename_i h2; exact ⟨h2.1, .inr rfl⟩
  · exact ⟨by omega, .inl rfl⟩
theorem hdown_len : ∀ (f : Nat) (l : List WN) (i n : Nat), (hdown f l i n).length = l.length
  | 0, l, i, n => rfl
  | f + 1, l, i, n => by
    unfold hdown
    split
    · rfl
    · split
      · rw [hdown_len f, hswap_len]
      · rfl
theorem hdown_perm : ∀ (f : Nat) (l : List WN) (i n : Nat), n ≤ l.length → (hdown f l i n).Perm l
  | 0, l, i, n, h => List.Perm.refl _
  | f + 1, l, i, n, h => by
    unfold hdown
    split
    · exact List.Perm.refl _
    · rename_i h2
      obtain ⟨h3, h4⟩ := hchild_bound l i n h2
      split
      · exact (hdown_perm f _ _ n (by rw [hswap_len]; exact h)).trans (hswap_perm l _ _ (by omega) (by omega))
      · exact List.Perm.refl _
/-- what stands at n and behind it stays -/
theorem hdown_stay : ∀ (f : Nat) (l : List WN) (i n k : Nat), n ≤ l.length → i < n → n ≤ k → hget (hdown f l i n) k = hget l k
  | 0, l, i, n, k, h, hi, hk => rfl
  | f + 1, l, i, n, k, h, hi, hk => by
    unfold hdown
    split
    · rfl
    · rename_i h2
      obtain ⟨h3, h4⟩ := hchild_bound l i n h2
      split
      · rw [hdown_stay f _ _ n k (by rw [hswap_len]; exact h) h3 hk, hget_swap l _ _ _ (by omega) (by omega), if_neg (by omega), if_neg (by omega)]
      · rfl
/-- a heap from m on: each one behind m's place whose parent is at m or behind it isn't less than its parent -/
def Hp (l : List WN) (m n : Nat) : Prop := ∀ k, 0 < k → k < n → m ≤ (k - 1) / 2 → wle (hget l ((k - 1) / 2)) (hget l k)
/-- a heap from m on but for i's children; i's children aren't less than i's parent (if that counts) -/
def HpBut (l : List WN) (m i n : Nat) : Prop :=
  (∀ k, 0 < k → k < n → m ≤ (k - 1) / 2 → (k - 1) / 2 ≠ i → wle (hget l ((k - 1) / 2)) (hget l k)) ∧
  (0 < i → m ≤ (i - 1) / 2 → ∀ k, 0 < k → k < n → (k - 1) / 2 = i → wle (hget l ((i - 1) / 2)) (hget l k))
theorem hchild_le (l : List WN) (i n k : Nat) (h : ¬ n ≤ 2 * i + 1) (hk : k < n) (hk2 : k = 2 * i + 1 ∨ k = 2 * i + 2) : wle (hget l (hchild l i n)) (hget l k) := by
  unfold hchild
  split
  · rename_i h2
    rcases hk2 with rfl | rfl
    · exact wle_of_lt h2.2
    · exact wle_refl _
  · rename_i h2
    rcases hk2 with rfl | rfl
    · exact wle_refl _
    · unfold wle
      cases e : wlt (hget l (2 * i + 2)) (hget l (2 * i + 1)) with
      | false => rfl
      | true => exact absurd ⟨hk, e⟩ h2
theorem hdown_heap : ∀ (f : Nat) (l : List WN) (m i n : Nat), n ≤ l.length → m ≤ i → i < n → n ≤ i + f → HpBut l m i n → Hp (hdown f l i n) m n
  | 0, l, m, i, n, h, hm, hi, hf, hb => by omega
  | f + 1, l, m, i, n, h, hm, hi, hf, hb => by
    unfold hdown
    split
    · rename_i h2
      intro k h0 hk hmk
      exact hb.1 k h0 hk hmk (by omega)
    · rename_i h2
      obtain ⟨h3, h4⟩ := hchild_bound l i n h2
      have hci : i < hchild l i n := by omega
      have hle := fun k => hchild_le l i n k h2
      generalize hchild l i n = c at h3 h4 hci hle
      split
      · rename_i hlt
        refine hdown_heap f _ m c n (by rw [hswap_len]; exact h) (by omega) h3 (by omega) ⟨fun k h0 hk hmk hne => ?_, fun hc0 hmc k h0 hk hkc => ?_⟩
        · rw [hget_swap l i c _ (by omega) (by omega), hget_swap l i c _ (by omega) (by omega)]
          rw [if_neg (show ¬ (k - 1) / 2 = c from hne)]
          by_cases e1 : (k - 1) / 2 = i
          · rw [if_pos e1]
            by_cases e2 : k = c
            · rw [if_pos e2]; exact wle_of_lt hlt
            · rw [if_neg e2, if_neg (by omega)]; exact hle k hk (by omega)
          · rw [if_neg e1]
            have hkc : ¬ k = c := by intro e; subst e; omega
            rw [if_neg hkc]
            by_cases e2 : k = i
            · rw [if_pos e2]
              subst e2
              exact hb.2 h0 hmk c (by omega) h3 (by omega)
            · rw [if_neg e2]
              exact hb.1 k h0 hk hmk e1
        · have hpc : (c - 1) / 2 = i := by omega
          rw [hpc, hget_swap l i c _ (by omega) (by omega), hget_swap l i c _ (by omega) (by omega), if_neg (by omega), if_pos rfl, if_neg (by omega), if_neg (by omega)]
          have := hb.1 k h0 hk (by omega) (by omega)
          rw [hkc] at this
          exact this
      · rename_i hlt
        intro k h0 hk hmk
        by_cases e1 : (k - 1) / 2 = i
        · rw [e1]
          have h5 : wle (hget l i) (hget l c) := by
            unfold wle
            cases e : wlt (hget l c) (hget l i) with
            | false => rfl
            | true => exact absurd e hlt
          exact wle_trans h5 (hle k hk (by omega))
        · exact hb.1 k h0 hk hmk e1
theorem hinit_len : ∀ (i : Nat) (l : List WN), (hinit i l).length = l.length
  | 0, l => rfl
  | i + 1, l => by unfold hinit; rw [hinit_len i, hdown_len]
theorem hinit_perm : ∀ (i : Nat) (l : List WN), (hinit i l).Perm l
  | 0, l => List.Perm.refl _
  | i + 1, l => by unfold hinit; exact (hinit_perm i _).trans (hdown_perm _ _ _ _ (Nat.le_refl _))
theorem hinit_heap : ∀ (i : Nat) (l : List WN), i ≤ l.length → Hp l i l.length → Hp (hinit i l) 0 l.length
  | 0, l, h, hp => hp
  | i + 1, l, h, hp => by
    unfold hinit
    have h2 : Hp (hdown l.length l i l.length) i l.length := by
      refine hdown_heap l.length l i i l.length (Nat.le_refl _) (Nat.le_refl _) (by omega) (by omega) ⟨fun k h0 hk hmk hne => ?_, fun h0 hmi => by omega⟩
      exact hp k h0 hk (by omega)
    have := hinit_heap i (hdown l.length l i l.length) (by rw [hdown_len]; omega) (by rw [hdown_len]; exact h2)
    rw [hdown_len] at this
    exact this
theorem hinit_all (l : List WN) : Hp (hinit (l.length / 2) l) 0 l.length :=
  hinit_heap _ l (by omega) (fun k h0 hk hmk => by omega)
theorem heap_least (l : List WN) (n : Nat) (h : Hp l 0 n) : ∀ k, k < n → wle (hget l 0) (hget l k) := by
  intro k
  induction k using Nat.strongRecOn with
  | ind k ih =>
    intro hk
    by_cases h0 : k = 0
    · subst h0; exact wle_refl _
    · exact wle_trans (ih ((k - 1) / 2) (by omega) (by omega)) (h k (by omega) hk (Nat.zero_le _))
theorem hup_len : ∀ (f : Nat) (l : List WN) (j : Nat), (hup f l j).length = l.length
  | 0, l, j => rfl
  | f + 1, l, j => by
    unfold hup
    split
    · rfl
    · split
      · rw [hup_len f, hswap_len]
      · rfl
theorem hup_perm : ∀ (f : Nat) (l : List WN) (j : Nat), j < l.length → (hup f l j).Perm l
  | 0, l, j, h => List.Perm.refl _
  | f + 1, l, j, h => by
    unfold hup
    split
    · exact List.Perm.refl _
    · split
      · exact (hup_perm f _ _ (by rw [hswap_len]; omega)).trans (hswap_perm l _ _ (by omega) (by omega))
      · exact List.Perm.refl _
/-- a heap but that j may be less than its parent; j's children aren't less than j's parent -/
def HpUp (l : List WN) (j n : Nat) : Prop :=
  (∀ k, 0 < k → k < n → k ≠ j → wle (hget l ((k - 1) / 2)) (hget l k)) ∧
  (0 < j → ∀ k, 0 < k → k < n → (k - 1) / 2 = j → wle (hget l ((j - 1) / 2)) (hget l k))
theorem hup_heap : ∀ (f : Nat) (l : List WN) (j n : Nat), n ≤ l.length → j < n → j < f → HpUp l j n → Hp (hup f l j) 0 n
  | 0, l, j, n, h, hj, hf, hb => by omega
  | f + 1, l, j, n, h, hj, hf, hb => by
    unfold hup
    split
    · rename_i h0
      subst h0
      intro k h0 hk _
      exact hb.1 k h0 hk (by omega)
    · rename_i h0
      split
      · rename_i hlt
        have hp : (j - 1) / 2 < j := by omega
        generalize hpe : (j - 1) / 2 = p at hlt hp
        refine hup_heap f _ p n (by rw [hswap_len]; exact h) (by omega) (by omega) ⟨fun k hk0 hk hne => ?_, fun hp0 k hk0 hk hkp => ?_⟩
        · rw [hget_swap l p j _ (by omega) (by omega), hget_swap l p j _ (by omega) (by omega)]
          by_cases e1 : k = j
          · subst e1
            rw [if_pos rfl, if_neg (by omega), if_pos (by omega)]
            exact wle_of_lt hlt
          · rw [if_neg e1, if_neg (show ¬ k = p from hne)]
            by_cases e2 : (k - 1) / 2 = j
            · rw [if_pos e2]
              have := hb.2 (by omega) k hk0 hk e2
              rw [hpe] at this
              exact this
            · rw [if_neg e2]
              have h1 := hb.1 k hk0 hk e1
              by_cases e3 : (k - 1) / 2 = p
              · rw [if_pos e3]
                rw [e3] at h1
                exact wle_trans (wle_of_lt hlt) h1
              · rw [if_neg e3]; exact h1
        · have h1 := hb.1 p (by omega) (by omega) (by omega)
          rw [hget_swap l p j _ (by omega) (by omega), hget_swap l p j _ (by omega) (by omega), if_neg (by omega), if_neg (by omega)]
          by_cases e1 : k = j
          · rw [if_pos e1]; exact h1
          · rw [if_neg e1, if_neg (by omega)]
            have h2 := hb.1 k hk0 hk e1
            rw [hkp] at h2
            exact wle_trans h1 h2
      · rename_i hlt
        intro k hk0 hk _
        by_cases e : k = j
        · subst e
          unfold wle
          cases e : wlt (hget l k) (hget l ((k - 1) / 2)) with
          | false => rfl
          | true => exact absurd e hlt
        · exact hb.1 k hk0 hk e
theorem hget_append (l : List WN) (x : WN) (k : Nat) (h : k < l.length) : hget (l ++ [x]) k = hget l k := by
  unfold hget; rw [List.getD_eq_getElem?_getD, List.getD_eq_getElem?_getD, List.getElem?_append_left h]
theorem hpush_len (l : List WN) (x : WN) : (hpush l x).length = l.length + 1 := by unfold hpush; rw [hup_len]; simp
theorem hpush_perm (l : List WN) (x : WN) : (hpush l x).Perm (l ++ [x]) := hup_perm _ _ _ (by simp)
theorem hpush_heap (l : List WN) (x : WN) (h : Hp l 0 l.length) : Hp (hpush l x) 0 (l.length + 1) := by
  refine hup_heap _ _ l.length _ (by simp) (by omega) (by omega) ⟨fun k h0 hk hne => ?_, fun h0 k hk0 hk hkl => by omega⟩
  rw [hget_append l x k (by omega), hget_append l x _ (by omega)]
  exact h k h0 (by omega) (Nat.zero_le _)
theorem hpop_len (l : List WN) : (hpop l).length = l.length := by unfold hpop; rw [hdown_len, hswap_len]
theorem hpop_perm (l : List WN) (h : 0 < l.length) : (hpop l).Perm l :=
  (hdown_perm _ _ _ _ (by rw [hswap_len]; omega)).trans (hswap_perm l _ _ (by omega) (by omega))
/-- the last one is what was the first -/
theorem hpop_last (l : List WN) (h : 0 < l.length) : hget (hpop l) (l.length - 1) = hget l 0 := by
  unfold hpop
  by_cases h1 : l.length = 1
  · rw [h1]
    show hget (hswap l 0 0) 0 = _
    rw [hget_swap l 0 0 0 (by omega) (by omega), if_pos rfl]
  · rw [hdown_stay _ _ _ _ _ (by rw [hswap_len]; omega) (by omega) (Nat.le_refl _), hget_swap l _ _ _ (by omega) (by omega), if_pos rfl]
theorem hpop_heap (l : List WN) (h : Hp l 0 l.length) : Hp (hpop l) 0 (l.length - 1) := by
  unfold hpop
  by_cases h1 : l.length ≤ 1
  · intro k h0 hk; omega
  · refine hdown_heap _ _ 0 0 _ (by rw [hswap_len]; omega) (Nat.le_refl _) (by omega) (by omega) ⟨fun k h0 hk _ hne => ?_, fun h0 => by omega⟩
    rw [hget_swap l _ _ _ (by omega) (by omega), hget_swap l _ _ _ (by omega) (by omega), if_neg (by omega), if_neg (by omega), if_neg (by omega), if_neg (by omega)]
    exact h k h0 (by omega) (Nat.zero_le _)
theorem hget_take (l : List WN) (n k : Nat) (h : k < n) : hget (l.take n) k = hget l k := by
  unfold hget; rw [List.getD_eq_getElem?_getD, List.getD_eq_getElem?_getD, List.getElem?_take, if_pos h]
/-- a pop: the least one, and what is left -/
theorem hpop_spec (l : List WN) (h0 : 0 < l.length) (h : Hp l 0 l.length) :
    Hp ((hpop l).take (l.length - 1)) 0 (l.length - 1) ∧ ((hpop l).take (l.length - 1) ++ [hget l 0]).Perm l ∧ ∀ y ∈ l, wle (hget l 0) y := by
  refine ⟨fun k hk0 hk hm => ?_, ?_, fun y hy => ?_⟩
  · rw [hget_take _ _ _ (by omega), hget_take _ _ _ (by omega)]
    exact hpop_heap l h k hk0 hk hm
  · have hl := hpop_len l
    have he : (hpop l).take (l.length - 1) ++ [hget l 0] = hpop l := by
      rw [← hpop_last l h0]
      have hlt : l.length - 1 < (hpop l).length := by omega
      rw [hget_lt _ _ hlt]
      have := List.take_succ_eq_append_getElem hlt
      rw [← this, List.take_of_length_le (by omega)]
    rw [he]
    exact hpop_perm l h0
  · obtain ⟨i, hi, rfl⟩ := List.getElem_of_mem hy
    rw [← hget_lt l i hi]
    exact heap_least l _ h i hi
end Go.Proofs.Ytclhmlgbhlmekaa
