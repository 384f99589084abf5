/- Layer 7: the rounds, told of a row of trees in no order: plain. -/
import Derived.Test.YtclhmlgbhlmekaaHMir
import Derived.Test.YtclhmlgbhlmekaaHCount
namespace Go.Proofs.Ytclhmlgbhlmekaa
open Go.RowKit
set_option linter.unusedVariables false
set_option linter.unusedSimpArgs false
/-- a tree: weight, number, bytes -/
abbrev Tr := Nat × Nat × List UInt8
def trOf (s : HS) (x : WN) : Tr := (x.1, x.2, s.ls x.2)
def forest (s : HS) : List Tr := s.l.map (trOf s)
/-- the heap is one -/
def HeapOK (s : HS) : Prop := Hp s.l 0 s.l.length
theorem popL_get (l : List WN) (h0 : 0 < l.length) (h : Hp l 0 l.length) : Hp (popL l) 0 (popL l).length := by
  have h1 := hpop_heap l h
  rw [popL_len]
  intro k hk1 hk2 hk3
  have h2 := h1 k hk1 hk2 hk3
  unfold popL
  rw [hget_take _ _ _ (by omega), hget_take _ _ _ (by omega)]
  exact h2
theorem heap_round (s : HS) (h : HeapOK s) (h2 : 2 ≤ s.l.length) : HeapOK (roundS s) := by
  have h1 := popL_get s.l (by omega) h
  have h3 := popL_get (popL s.l) (by rw [popL_len]; omega) h1
  have h4 := hpush_heap (popL (popL s.l)) (sumW (hget s.l 0).1 (hget (popL s.l) 0).1, s.n) h3
  show Hp (hpush _ _) 0 (hpush _ _).length
  rw [hpush_len]; exact h4
theorem heap_start (f : Nat → Nat) (i : Nat) (hn : (leafS f i).n = (leafS f i).l.length) : HeapOK (heapS (leafS f i)) := by
  show Hp (hinit _ _) 0 (hinit _ _).length
  rw [hinit_len, hn]; exact hinit_all _
/-- a smaller tree comes first; of equal ones the one with the smaller number -/
def tle (a b : Tr) : Prop := wle (a.1, a.2.1) (b.1, b.2.1)
theorem least_of {l : List WN} (h : Hp l 0 l.length) {x : WN} (hx : x ∈ l) : wle (hget l 0) x := by
  obtain ⟨k, hk, rfl⟩ := List.mem_iff_getElem.1 hx
  have := heap_least l l.length h k hk
  rwa [hget_lt l k hk] at this
theorem round_forest (s : HS) (hok : HOK s) (h : HeapOK s) (h2 : 2 ≤ s.l.length) :
    ∃ (x0 x1 : Tr) (rest : List Tr), (forest s).Perm (x0 :: x1 :: rest) ∧ (forest (roundS s)).Perm ((sumW x0.1 x1.1, s.n, x0.2.2 ++ x1.2.2) :: rest) ∧ bsOf s = x0.2.2 ++ x1.2.2 ∧
      (∀ y ∈ x1 :: rest, tle x0 y) ∧ (∀ y ∈ rest, tle x1 y) := by
  have hp := two_perm s.l h2
  have h1 := popL_get s.l (by omega) h
  have hpl : ∀ x ∈ popL s.l, x ∈ s.l := fun x hx => (popL_perm s.l (by omega)).mem_iff.1 (by simp [hx])
  have hpp : ∀ x ∈ popL (popL s.l), x ∈ popL s.l := fun x hx => (popL_perm (popL s.l) (by rw [popL_len]; omega)).mem_iff.1 (by simp [hx])
  have hq := hpush_perm (popL (popL s.l)) (sumW (hget s.l 0).1 (hget (popL s.l) 0).1, s.n)
  have m1 : hget (popL s.l) 0 ∈ s.l := hp.mem_iff.1 (by simp)
  refine ⟨trOf s (hget s.l 0), trOf s (hget (popL s.l) 0), (popL (popL s.l)).map (trOf s), ?_, ?_, rfl, ?_, ?_⟩
  · have h5 : (popL (popL s.l) ++ [hget (popL s.l) 0] ++ [hget s.l 0]).Perm (hget s.l 0 :: hget (popL s.l) 0 :: popL (popL s.l)) := by
      refine (List.perm_append_singleton _ _).trans ?_
      exact List.Perm.cons _ (List.perm_append_singleton _ _)
    exact ((hp.symm.trans h5).map (trOf s))
  · have e : forest (roundS s) = (hpush (popL (popL s.l)) (sumW (hget s.l 0).1 (hget (popL s.l) 0).1, s.n)).map (trOf (roundS s)) := rfl
    rw [e]
    refine (hq.map _).trans ?_
    rw [List.map_append]
    refine (List.perm_append_singleton _ _).trans ?_
    have e1 : trOf (roundS s) (sumW (hget s.l 0).1 (hget (popL s.l) 0).1, s.n) = (sumW (hget s.l 0).1 (hget (popL s.l) 0).1, s.n, s.ls (hget s.l 0).2 ++ s.ls (hget (popL s.l) 0).2) := by
      show (_, _, updA s.ls s.n (bsOf s) s.n) = _
      rw [updA_self]; rfl
    rw [e1]
    refine List.Perm.cons _ ?_
    rw [List.map_congr_left (fun x hx => ?_)]
    show (x.1, x.2, updA s.ls s.n (bsOf s) x.2) = _
    rw [updA_ne _ _ (by have := hok.num x (hpl x (hpp x hx)); omega)]; rfl
  · intro y hy
    rcases List.mem_cons.1 hy with rfl | hy
    · exact least_of h m1
    · obtain ⟨x, hx, rfl⟩ := List.mem_map.1 hy
      exact least_of h (hpl x (hpp x hx))
  · intro y hy
    obtain ⟨x, hx, rfl⟩ := List.mem_map.1 hy
    exact least_of h1 (hpp x hx)
/-- how deep each byte is -/
def depS : Nat → HS → (Nat → Nat) → Nat → Nat
  | 0, s, d => d
  | k + 1, s, d => if s.l.length ≤ 1 then d else depS k (roundS s) (fun i => d i + cntF (bsOf s) i)
theorem incs_cnt : ∀ (bs : List UInt8) (t : Nat → Nat), (∀ i, t i < 256) → ∀ i, incs t bs i = (t i + cntF bs i) % 256
  | [], t, h, i => by rw [incs, show cntF [] i = 0 from rfl, Nat.add_zero, Nat.mod_eq_of_lt (h i)]
  | x :: r, t, h, i => by
    rw [incs, incs_cnt r _ (fun j => by unfold upd; split; exact Nat.mod_lt _ (by omega); exact h j)]
    have e : cntF (x :: r) i = cntF r i + (if x.toNat = i then 1 else 0) := by
      unfold cntF; rw [List.countP_cons]; simp
    rw [e]
    unfold upd
    by_cases h1 : i = x.toNat
    · rw [if_pos h1, if_pos h1.symm, h1]; omega
    · rw [if_neg h1, if_neg (fun e => h1 e.symm)]; rfl
theorem rounds_dep : ∀ (k : Nat) (s : HS) (d : Nat → Nat), s.tab = (fun i => d i % 256) → (roundsS k s).tab = fun i => depS k s d i % 256
  | 0, s, d, h => h
  | k + 1, s, d, h => by
    rw [roundsS, depS]
    by_cases h1 : s.l.length ≤ 1
    · rw [if_pos h1, if_pos h1]; exact h
    · rw [if_neg h1, if_neg h1]
      refine rounds_dep k _ _ ?_
      funext i
      show incs s.tab (bsOf s) i = _
      rw [incs_cnt _ _ (fun j => by rw [h]; exact Nat.mod_lt _ (by omega)), h]
      dsimp only
      omega
/-- what holds of the trees and the depths holds behind the rounds, where each round keeps it -/
theorem rounds_keep (Q : List Tr → Nat → (Nat → Nat) → Prop) (hperm : ∀ F G n d, F.Perm G → Q F n d → Q G n d)
    (hstep : ∀ (x0 x1 : Tr) (rest : List Tr) (n : Nat) (d : Nat → Nat), (∀ y ∈ x1 :: rest, tle x0 y) → (∀ y ∈ rest, tle x1 y) → Q (x0 :: x1 :: rest) n d → Q ((sumW x0.1 x1.1, n, x0.2.2 ++ x1.2.2) :: rest) (n + 1) (fun i => d i + cntF (x0.2.2 ++ x1.2.2) i)) :
    ∀ (k : Nat) (s : HS) (d : Nat → Nat), s.l.length ≤ k + 1 → HOK s → HeapOK s → Q (forest s) s.n d → ∃ n, Q (forest (roundsS k s)) n (depS k s d) ∧ (roundsS k s).l.length ≤ 1
  | 0, s, d, hl, hok, hh, hQ => ⟨s.n, hQ, hl⟩
  | k + 1, s, d, hl, hok, hh, hQ => by
    rw [roundsS, depS]
    by_cases h1 : s.l.length ≤ 1
    · rw [if_pos h1, if_pos h1]; exact ⟨s.n, hQ, h1⟩
    · rw [if_neg h1, if_neg h1]
      obtain ⟨x0, x1, rest, p1, p2, hb, l0, l1⟩ := round_forest s hok hh (by omega)
      have hQ2 := hstep x0 x1 rest s.n d l0 l1 (hperm _ _ _ _ p1 hQ)
      rw [← hb] at hQ2 p2
      have hQ3 := hperm _ _ _ _ p2.symm hQ2
      exact rounds_keep Q hperm hstep k (roundS s) _ (by rw [round_len s (by omega)]; omega) (round_ok s hok (by omega)) (heap_round s hh (by omega)) hQ3
end Go.Proofs.Ytclhmlgbhlmekaa
