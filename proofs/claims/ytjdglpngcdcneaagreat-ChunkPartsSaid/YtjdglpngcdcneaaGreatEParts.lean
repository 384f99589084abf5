/- Layer 21: a thread's part (plain). -/
import Derived.Test.YtjdglpngcdcneaaGreatEArg
namespace Go.Proofs.YtjdglpngcdcneaaGreat
open Go.RowKit Go.WideShapes
set_option linter.unusedVariables false
set_option linter.unusedSimpArgs false
set_option linter.unusedSectionVars false
def withTh (t : Int) (e : Ev) : Ev := ⟨t, e.kd, e.rg, e.tk, e.vl⟩
theorem lays_pre (l : List Ev) (t : Nat) (ht : t ≤ 8) : ∃ Z, lays l 8 = lays l t ++ Z := by
  have : ∀ d, t + d ≤ 8 → ∃ Z, lays l (t + d) = lays l t ++ Z := fun d => by
    induction d with
    | zero => intro _; exact ⟨[], by simp⟩
    | succ d ih =>
      intro hd
      obtain ⟨Z, hZ⟩ := ih (by omega)
      rw [← Nat.add_assoc, lays_succ, hZ, List.append_assoc]
      exact ⟨_, rfl⟩
  have := this (8 - t) (by omega)
  rwa [show t + (8 - t) = 8 by omega] at this
theorem two_get (a b : List Ev) (i : Nat) (h : i < a.length) : (a ++ b).getD i default = a.getD i default := by
  rw [List.getD_eq_getElem?_getD, List.getElem?_append_left h, ← List.getD_eq_getElem?_getD]
theorem ofE_two (a b : List Ev) (ha : ∀ i, i < a.length → (a.getD i default).th = 0) (hb : ∀ i, i < b.length → (b.getD i default).th = 7) : ofE (a ++ b) 0 = List.range a.length := by
  unfold ofE ofK
  rw [List.length_append, List.range_add, List.filter_append]
  have h1 : (List.range a.length).filter (fun j => decide (((a ++ b).getD j default).th = 0)) = List.range a.length := by
    rw [List.filter_eq_self]
    intro i hi
    rw [List.mem_range] at hi
    rw [two_get a b i hi, ha i hi]; rfl
  have h2 : ((List.range b.length).map (fun x => a.length + x)).filter (fun j => decide (((a ++ b).getD j default).th = 0)) = [] := by
    rw [List.filter_eq_nil_iff]
    intro i hi
    obtain ⟨k, hk, rfl⟩ := List.mem_map.1 hi
    rw [List.mem_range] at hk
    have e : (a ++ b).getD (a.length + k) default = b.getD k default := by
      rw [List.getD_eq_getElem?_getD, List.getElem?_append_right (by omega), Nat.add_sub_cancel_left, ← List.getD_eq_getElem?_getD]
    rw [e, hb k hk]; decide
  rw [h1, h2, List.append_nil]
theorem part_two (a b : List Ev) (at' : List Nat) (hin : ∀ i ∈ at', i < a.length) (P : Int → Bool) (V : Ev → Nat) : part (a ++ b) at' P V = part a at' P V := by
  unfold part
  have h1 : at'.filter (fun i => P ((a ++ b).getD i default).kd) = at'.filter (fun i => P (a.getD i default).kd) := by
    apply List.filter_congr
    intro i hi
    rw [two_get a b i (hin i hi)]
  rw [h1]
  apply List.map_congr_left
  intro i hi
  rw [two_get a b i (hin i (List.mem_filter.1 hi).1)]
theorem lays_two (a b : List Ev) (ha : ∀ i, i < a.length → (a.getD i default).th = 0) (hb : ∀ i, i < b.length → (b.getD i default).th = 7) (hn : 1 ≤ a.length) : lays (a ++ b) 1 = layE a (List.range a.length) := by
  have e0 : ((0 : Nat) : Int) = 0 := rfl
  rw [lays_succ, e0, ofE_two a b ha hb, List.length_range, if_neg (by omega)]
  have hin : ∀ i ∈ List.range a.length, i < a.length := fun i hi => List.mem_range.1 hi
  unfold layE
  rw [part_two a b _ hin, part_two a b _ hin, part_two a b _ hin, part_two a b _ hin]
  simp [lays]
theorem lays_one (a : List Ev) (ha : ∀ i, i < a.length → (a.getD i default).th = 0) (hn : 1 ≤ a.length) : lays a 8 = layE a (List.range a.length) := by
  have h1 := lays_two a [] ha (fun i hi => absurd hi (by simp)) hn
  rw [List.append_nil] at h1
  have : ∀ d, lays a (1 + d) = lays a 1 := fun d => by
    induction d with
    | zero => rfl
    | succ d ih =>
      rw [← Nat.add_assoc, lays_succ, ih]
      have e : ofE a ((1 + d : Nat) : Int) = [] := by
        unfold ofE ofK
        rw [List.filter_eq_nil_iff]
        intro i hi
        rw [List.mem_range] at hi
        rw [ha i hi, decide_eq_true_eq]; omega
      rw [e]; simp
  have := this 7
  rw [← h1]; exact this
theorem th_rep (a : List Ev) (v : Int) (ha : ∀ i, i < a.length → (a.getD i default).th = v) : thr a = List.replicate a.length v.toNat := by
  apply List.ext_getElem
  · simp [thr]
  · intro i h1 h2
    have hi : i < a.length := by simpa [thr] using h1
    have := ha i hi
    rw [List.getD_eq_getElem?_getD, List.getElem?_eq_getElem hi, Option.getD_some] at this
    simp [thr, this]
theorem thr_two (a b : List Ev) : thr (a ++ b) = thr a ++ thr b := by simp [thr]
theorem head_len1 (n : Nat) (hn : 1 ≤ n) (hn2 : n ≤ 128) : (rbl (pk (List.replicate n 0))).length = 3 := by
  obtain ⟨c, rfl⟩ : ∃ c, n = c + 1 := ⟨n - 1, by omega⟩
  have e : pk (List.replicate (c + 1) 0) = [(0, c + 1)] := fold_rep [] 0 (fun r h => by cases h) c
  rw [e]
  have : c < 128 := by omega
  simp [rbl, rbs, vb_small, this]
theorem head_len2 (n m : Nat) (hn : 1 ≤ n) (hn2 : n ≤ 128) (hm : 1 ≤ m) (hm2 : m ≤ 128) : (rbl (pk (List.replicate n 0 ++ List.replicate m 7))).length = 5 := by
  obtain ⟨c, rfl⟩ : ∃ c, n = c + 1 := ⟨n - 1, by omega⟩
  obtain ⟨d, rfl⟩ : ∃ d, m = d + 1 := ⟨m - 1, by omega⟩
  have e : pk (List.replicate (c + 1) 0 ++ List.replicate (d + 1) 7) = [(0, c + 1), (7, d + 1)] := by
    unfold pk
    rw [List.foldl_append, fold_rep [] 0 (fun r h => by cases h) c]
    exact fold_rep [(0, c + 1)] 7 (fun r h => by injection h with h; rw [← h]; show (0 : Nat) ≠ 7; decide) d
  rw [e]
  have h1 : c < 128 := by omega
  have h2 : d < 128 := by omega
  simp [rbl, rbs, vb_small, h1, h2]
def frontOf (m : Nat) : Nat := if m = 0 then 3 else 5
/-- streams of two threads: the front, thread 0's part, the rest -/
theorem streams_two (a b : List Ev) (ha : ∀ i, i < a.length → (a.getD i default).th = 0) (hb : ∀ i, i < b.length → (b.getD i default).th = 7) (hn : 1 ≤ a.length) (hn2 : a.length ≤ 100) (hm2 : b.length ≤ 100) :
    ∃ F Z, F.length = frontOf b.length ∧ streamsP (a ++ b) = F ++ layE a (List.range a.length) ++ Z := by
  obtain ⟨Z, hZ⟩ := lays_pre (a ++ b) 1 (by omega)
  refine ⟨rbl (pk (thr (a ++ b))), Z, ?_, ?_⟩
  · rw [thr_two, th_rep a 0 ha, th_rep b 7 hb]
    unfold frontOf
    by_cases h0 : b.length = 0
    · rw [if_pos h0, h0]
      show (rbl (pk (List.replicate a.length 0 ++ []))).length = 3
      rw [List.append_nil]
      exact head_len1 a.length hn (by omega)
    · rw [if_neg h0]
      exact head_len2 a.length b.length hn (by omega) (by omega) (by omega)
  · rw [streams_eq, hZ, lays_two a b ha hb hn, List.append_assoc]
theorem streams_head (a : List Ev) (ha : ∀ i, i < a.length → (a.getD i default).th = 0) (hn : 1 ≤ a.length) (hn2 : a.length ≤ 100) :
    ∃ F, F.length = 3 ∧ streamsP a = F ++ layE a (List.range a.length) := by
  refine ⟨rbl (pk (thr a)), ?_, ?_⟩
  · rw [th_rep a 0 ha]
    exact head_len1 a.length hn (by omega)
  · rw [streams_eq, lays_one a ha hn]
section
variable {H : Type} {enc : TypeId × Value → H} {P : Program} {w : World} {base : Nat} {spare : Nat → Bool} {held : Bool}
/-- a slice that came in is as long as what it reads as -/
theorem arg_sized {t e : TypeId} {fuel : Nat} {A : Option Addr} {len cap : Nat} {x : DataW H} {y : List MemPlace} (ht : P.underlying t = some (.slice e)) (h : DataW.trod enc P w base spare held fuel t [.slice A len cap] = some (x, y)) :
    len = 0 ∨ ∃ el sp, x = .slice el sp ∧ el.length = len := by
  rcases Go.Deep.open_slice ht h with ⟨hcs, _⟩ | ⟨a, len', cap', m, n, D, Pl, hcs, hb, hl, hm, hmm, hx, hi⟩
  · simp at hcs
    exact .inl hcs.2.1
  · simp at hcs
    obtain ⟨rfl, rfl, rfl⟩ := hcs
    cases hx
    exact .inr ⟨_, _, rfl, by simp⟩
end
end Go.Proofs.YtjdglpngcdcneaaGreat
