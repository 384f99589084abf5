/- Runs: plain. -/
import Derived.Test.YtpdhfmkaeemadaaDPure
namespace Go.Proofs.Ytpdhfmkaeemadaa
set_option linter.unusedVariables false
abbrev Rn := Nat × Nat
def packStep (p : List Rn) (v : Nat) : List Rn := match p.getLast? with
  | some r => if r.1 = v then p.dropLast ++ [(r.1, r.2 + 1)] else p ++ [(v, 1)]
  | none => p ++ [(v, 1)]
theorem packStep_nil (v : Nat) : packStep [] v = [(v, 1)] := rfl
theorem packStep_snoc (q : List Rn) (u c v : Nat) : packStep (q ++ [(u, c)]) v = if u = v then q ++ [(u, c + 1)] else q ++ [(u, c)] ++ [(v, 1)] := by
  unfold packStep; rw [List.getLast?_concat]; simp
def pk (l : List Nat) : List Rn := l.foldl packStep []
def expand (p : List Rn) : List Nat := p.flatMap fun r => List.replicate r.2 r.1
theorem expand_snoc (p : List Rn) (v c : Nat) : expand (p ++ [(v, c)]) = expand p ++ List.replicate c v := by simp [expand]
theorem expand_len_snoc (p : List Rn) (v c : Nat) : (expand (p ++ [(v, c)])).length = (expand p).length + c := by simp [expand_snoc]
theorem expand_step (p : List Rn) (v : Nat) : expand (packStep p v) = expand p ++ [v] := by
  rcases List.eq_nil_or_concat p with rfl | ⟨q, ⟨u, c⟩, rfl⟩
  · rfl
  · simp only [List.concat_eq_append]
    rw [packStep_snoc]
    split
    · rename_i h; subst h
      rw [expand_snoc, expand_snoc, List.replicate_succ', List.append_assoc]
    · rw [expand_snoc]; rfl
theorem foldl_expand (l : List Nat) : ∀ p, expand (l.foldl packStep p) = expand p ++ l := by
  induction l with
  | nil => intro p; simp
  | cons v l ih => intro p; rw [List.foldl_cons, ih, expand_step]; simp
theorem expand_pk (l : List Nat) : expand (pk l) = l := by unfold pk; rw [foldl_expand]; rfl
theorem pk_snoc (l : List Nat) (v : Nat) : pk (l ++ [v]) = packStep (pk l) v := by unfold pk; rw [List.foldl_append]; rfl
theorem pk_take (l : List Nat) (i : Nat) (h : i < l.length) : pk (l.take (i + 1)) = packStep (pk (l.take i)) (l.getD i 0) := by
  rw [← pk_snoc]
  congr 1
  rw [List.take_succ_eq_append_getElem h, List.getD_eq_getElem?_getD, List.getElem?_eq_getElem h]; rfl
/-- counts that are not 0, neighbours that are unlike -/
def okR : List Rn → Prop
  | [] => True
  | r :: p => 1 ≤ r.2 ∧ (∀ s, p.head? = some s → r.1 ≠ s.1) ∧ okR p
theorem okR_snoc (p : List Rn) (v c : Nat) : okR (p ++ [(v, c)]) ↔ okR p ∧ 1 ≤ c ∧ (∀ r, p.getLast? = some r → r.1 ≠ v) := by
  induction p with
  | nil => simp [okR]
  | cons r p ih =>
    cases p with
    | nil => simp [okR]; intro _; exact And.comm
    | cons s p =>
      rw [List.cons_append, okR, ih, List.getLast?_cons_cons]
      simp only [okR, List.cons_append, List.head?_cons]
      constructor
      · rintro ⟨h1, h2, h3, h4, h5⟩; exact ⟨⟨h1, h2, h3⟩, h4, h5⟩
      · rintro ⟨⟨h1, h2, h3⟩, h4, h5⟩; exact ⟨h1, h2, h3, h4, h5⟩
theorem ok_step (p : List Rn) (v : Nat) (h : okR p) : okR (packStep p v) := by
  rcases List.eq_nil_or_concat p with rfl | ⟨q, ⟨u, c⟩, rfl⟩
  · rw [packStep_nil]; simp [okR]
  · simp only [List.concat_eq_append] at h ⊢
    rw [packStep_snoc]
    split
    · rw [okR_snoc] at h ⊢; exact ⟨h.1, by omega, h.2.2⟩
    · rename_i hne
      rw [okR_snoc (q ++ [(u, c)])]
      exact ⟨h, by omega, by rw [List.getLast?_concat]; rintro r ⟨⟩; exact hne⟩
theorem ok_fold (l : List Nat) : ∀ p, okR p → okR (l.foldl packStep p) := by
  induction l with
  | nil => intro p h; exact h
  | cons v l ih => intro p h; exact ih _ (ok_step p v h)
theorem ok_pk (l : List Nat) : okR (pk l) := ok_fold l [] trivial
theorem fold_rep (q : List Rn) (v : Nat) (h : ∀ r, q.getLast? = some r → r.1 ≠ v) : ∀ c, (List.replicate (c + 1) v).foldl packStep q = q ++ [(v, c + 1)]
  | 0 => by
    show packStep q v = _
    rcases List.eq_nil_or_concat q with rfl | ⟨p, ⟨u, d⟩, rfl⟩
    · rfl
    · simp only [List.concat_eq_append] at h ⊢
      rw [packStep_snoc, if_neg (h (u, d) (by rw [List.getLast?_concat]))]
  | c + 1 => by
    rw [List.replicate_succ', List.foldl_append, fold_rep q v h c]
    show packStep _ v = _
    rw [packStep_snoc, if_pos rfl]
theorem pk_expand (p : List Rn) (h : okR p) : pk (expand p) = p := by
  have key : ∀ (n : Nat) (p : List Rn), p.length = n → okR p → pk (expand p) = p := by
    intro n
    induction n with
    | zero => intro p hp _; rw [List.eq_nil_of_length_eq_zero hp]; rfl
    | succ n ih =>
      intro p hp h
      rcases List.eq_nil_or_concat p with rfl | ⟨q, ⟨v, c⟩, rfl⟩
      · simp at hp
      · simp only [List.concat_eq_append] at hp h ⊢
        rw [okR_snoc] at h
        have hq := ih q (by simpa using hp) h.1
        obtain ⟨c, rfl⟩ : ∃ d, c = d + 1 := ⟨c - 1, by omega⟩
        rw [expand_snoc]
        show (expand q ++ _).foldl packStep [] = _
        rw [List.foldl_append]
        show (List.replicate (c + 1) v).foldl packStep (pk (expand q)) = _
        rw [hq, fold_rep q v h.2.2 c]
  exact key _ p rfl h
theorem len_le_expand (p : List Rn) (h : okR p) : p.length ≤ (expand p).length := by
  induction p with
  | nil => simp
  | cons r p ih =>
    have h2 := ih h.2.2
    have h1 := h.1
    simp only [expand, List.flatMap_cons, List.length_append, List.length_replicate, List.length_cons] at h2 ⊢
    omega
theorem count_le_expand (p : List Rn) : ∀ r ∈ p, r.2 ≤ (expand p).length := by
  induction p with
  | nil => intro r h; cases h
  | cons s p ih =>
    intro r h
    simp only [expand, List.flatMap_cons, List.length_append, List.length_replicate]
    rcases List.mem_cons.1 h with rfl | h
    · omega
    · have := ih r h; simp only [expand] at this; omega
/-- the list that runs are, of at most 'most' numbers -/
def un (most : Nat) : List Rn → List Nat → List Nat × Nat
  | [], acc => (acc, 0)
  | r :: p, acc => if r.2 = 0 ∨ acc.getLast? = some r.1 then ([], 3) else if most < acc.length + r.2 then ([], 4) else un most p (acc ++ List.replicate r.2 r.1)
theorem un_ok (most : Nat) : ∀ (p q : List Rn), okR (q ++ p) → (expand (q ++ p)).length ≤ most → un most p (expand q) = (expand (q ++ p), 0)
  | [], q, _, _ => by rw [un, List.append_nil]
  | (v, c) :: p, q, h, hm => by
    have e : q ++ (v, c) :: p = (q ++ [(v, c)]) ++ p := by simp
    rw [e] at h hm
    have hpre : okR (q ++ [(v, c)]) := by
      clear hm e
      induction q with
      | nil => exact ⟨h.1, by simp, trivial⟩
      | cons s q ih =>
        refine ⟨h.1, ?_, ih h.2.2⟩
        have h2 := h.2.1
        cases q with
        | nil => simpa using h2
        | cons t q => simpa using h2
    have h2 := (okR_snoc q v c).1 hpre
    have hlast : ¬ (expand q).getLast? = some v := by
      rcases List.eq_nil_or_concat q with rfl | ⟨q', ⟨u, d⟩, rfl⟩
      · simp [expand]
      · simp only [List.concat_eq_append] at h2 ⊢
        have hd := ((okR_snoc q' u d).1 h2.1).2.1
        obtain ⟨d, rfl⟩ : ∃ k, d = k + 1 := ⟨d - 1, by omega⟩
        rw [expand_snoc, List.replicate_succ', ← List.append_assoc, List.getLast?_concat]
        have := h2.2.2 (u, d + 1) (by rw [List.getLast?_concat])
        simpa using this
    have hlen : (expand q).length + c ≤ most := by
      have : (expand (q ++ [(v, c)] ++ p)).length = (expand q).length + c + (expand p).length := by simp [expand]; omega
      omega
    rw [un, if_neg (by rintro (h3 | h3); exact absurd h3 (by show c ≠ 0; omega); exact hlast h3), if_neg (by show ¬ most < _ + c; omega)]
    show un most p (expand q ++ List.replicate c v) = _
    rw [← expand_snoc, un_ok most p (q ++ [(v, c)]) h hm, e]
theorem un_pk (l : List Nat) (most : Nat) (h : l.length ≤ most) : un most (pk l) [] = (l, 0) := by
  have := un_ok most (pk l) [] (ok_pk l) (by rw [List.nil_append, expand_pk]; exact h)
  rw [List.nil_append, expand_pk] at this
  exact this
/-- what was unpacked: its runs are those -/
theorem un_zero (most : Nat) : ∀ (p q : List Rn), okR q → (un most p (expand q)).2 = 0 → okR (q ++ p) ∧ (un most p (expand q)).1 = expand (q ++ p)
  | [], q, hq, _ => by rw [List.append_nil]; exact ⟨hq, rfl⟩
  | (v, c) :: p, q, hq, h => by
    rw [un] at h ⊢
    split at h
    · simp at h
    · rename_i h1
      rw [if_neg h1]
      split at h
      · simp at h
      · rename_i h2
        rw [if_neg h2]
        have h1c : ¬ c = 0 := fun e => h1 (.inl e)
        have h1l : ¬ (expand q).getLast? = some v := fun e => h1 (.inr e)
        have e : (expand q ++ List.replicate c v) = expand (q ++ [(v, c)]) := (expand_snoc q v c).symm
        have hok : okR (q ++ [(v, c)]) := by
          rw [okR_snoc]
          refine ⟨hq, by omega, ?_⟩
          rcases List.eq_nil_or_concat q with rfl | ⟨q', ⟨u, d⟩, rfl⟩
          · intro r hr; simp at hr
          · simp only [List.concat_eq_append] at hq h1l ⊢
            intro r hr
            rw [List.getLast?_concat] at hr
            cases hr
            have hd := ((okR_snoc q' u d).1 hq).2.1
            obtain ⟨d, rfl⟩ : ∃ k, d = k + 1 := ⟨d - 1, by omega⟩
            rw [expand_snoc, List.replicate_succ', ← List.append_assoc, List.getLast?_concat] at h1l
            intro hu; exact h1l (by rw [← hu])
        have e2 : q ++ (v, c) :: p = (q ++ [(v, c)]) ++ p := by simp
        show okR (q ++ (v, c) :: p) ∧ (un most p (expand q ++ List.replicate c v)).1 = _
        change (un most p (expand q ++ List.replicate c v)).2 = 0 at h
        rw [e] at h ⊢
        rw [e2]
        exact un_zero most p (q ++ [(v, c)]) hok h
end Go.Proofs.Ytpdhfmkaeemadaa
