/- Layer 21: the j-th stream, by what its functions do when it is read. -/
import Derived.Test.YtjdglpngcdcneaaGreatEPrn
import Derived.Test.YtjdglpngcdcneaaGreatHh
namespace Go.Proofs.YtjdglpngcdcneaaGreat
open Go.RowKit Go.WideShapes
set_option linter.unusedVariables false
set_option linter.unusedSimpArgs false
set_option linter.unusedSectionVars false
theorem evs_set (l : List Ev) (i j : Nat) (h : i < l.length) (hj : j < 5) (v : Value) (e' : Ev) (he : evC e' = (evC (l.getD i default)).set j v) : (evsV l).set (i * 5 + j) v = evsV (l.set i e') := by
  unfold evsV
  induction l generalizing i with
  | nil => simp at h
  | cons x l ih =>
    cases i with
    | zero =>
      rw [List.getD_cons_zero] at he
      rw [List.set_cons_zero, List.flatMap_cons, List.flatMap_cons, Nat.zero_mul, Nat.zero_add, List.set_append_left _ _ (by rw [evC_len]; exact hj), he]
    | succ i =>
      rw [List.getD_cons_succ] at he
      rw [List.set_cons_succ, List.flatMap_cons, List.flatMap_cons, List.set_append_right _ _ (by rw [evC_len]; omega), evC_len, show (i + 1) * 5 + j - 5 = i * 5 + j by omega, ih i (by simpa using h) he]
theorem Own.erow {w : World} {A : Option Addr} {n c : Nat} {l : List Ev} (h : Own w 36 5 (.slice A n c) n (evsV l)) (hl : l.length = n) : ERow w A l := fun i hi => by
  obtain ⟨g, cap, e, _⟩ := h.slice (by omega)
  cases e
  have hc := fun j (hj : j < 5) => (h.cell (i * 5 + j) (by omega)).trans (flat_get evC_len l i hi j hj)
  exact ⟨g, 0, rfl, by rw [Nat.zero_add]; exact hc 0 (by omega), by rw [Nat.zero_add]; exact hc 1 (by omega), by rw [Nat.zero_add]; exact hc 2 (by omega), by rw [Nat.zero_add]; exact hc 3 (by omega), by rw [Nat.zero_add]; exact hc 4 (by omega)⟩
structure FillOK (x : Strm) : Prop where
  read : ∀ {S : Nat → Prop} {W w : World} (b : Nat) (s : ByteArray) (a most : Nat), St S W w [rdT b s a] → s.size ≤ 4200000 → a ≤ s.size → most ≤ 1000000 → Calls Tryz.prog x.fr #[.pointer (some ⟨b, 0, none⟩), .int .i64 most] w fun e w' => ∃ v, e = .returned (.tuple #[v, .int .i64 (x.R s.data.toList a most).2.1]) ∧ St S W w' [nlT v (x.R s.data.toList a most).1, rdT b s (x.R s.data.toList a most).2.2]
  fact : ∀ (L : List UInt8) (a most : Nat), a ≤ L.length → AllLt (x.R L a most).1 ∧ (x.R L a most).2.1 ≤ 4 ∧ (x.R L a most).2.2 ≤ L.length
  set : ∀ {S : Nat → Prop} {W w : World} {M : List Thing} (g c n : Nat) (l : List Ev) (i v : Nat), St S W w (ownT 36 5 (.slice (some ⟨g, 0, none⟩) n c) n (evsV l) :: M) → l.length = n → i < n → v < 18446744073709551616 → Calls Tryz.prog x.fs #[.pointer (some ⟨g, i * 5, none⟩), .int .u64 v] w fun e w' => e = .returned (.tuple #[]) ∧ St S W w' (ownT 36 5 (.slice (some ⟨g, 0, none⟩) n c) n (evsV (l.set i (x.U (l.getD i default) v))) :: M)
  vl : ∀ (e : Ev) (v : Nat), e.vl < 18446744073709551616 → v < 18446744073709551616 → (x.U e v).vl < 18446744073709551616
  th : ∀ (e : Ev) (v : Nat), (x.U e v).th = e.th
theorem allLt_rep (acc : List Nat) (v : Nat) (h : AllLt acc) (hv : v < 18446744073709551616) : ∀ c, AllLt (acc ++ List.replicate c v)
  | c => fun i hi => by
    rw [List.getD_eq_getElem?_getD]
    rcases Nat.lt_or_ge i acc.length with h1 | h1
    · rw [List.getElem?_append_left h1, ← List.getD_eq_getElem?_getD]; exact h i h1
    · rw [List.getElem?_append_right h1]
      rw [List.length_append, List.length_replicate] at hi
      rw [List.getElem?_replicate, if_pos (by omega)]; exact hv
theorem rls_facts (l : List UInt8) (most : Nat) : ∀ (n a : Nat) (acc : List Nat), AllLt acc → a ≤ l.length →
    AllLt (rls l most n a acc).1 ∧ (rls l most n a acc).2.1 ≤ 4 ∧ (rls l most n a acc).2.2 ≤ l.length
  | 0, a, acc, h1, h3 => ⟨h1, by simp [rls], h3⟩
  | n + 1, a, acc, h1, h3 => by
    have hf := rd2_facts l a h3
    have hnil : AllLt [] := fun i hi => by simp at hi
    rw [rls]
    split
    · split
      · exact ⟨hnil, by simp, hf.2.2.2.2⟩
      · split
        · exact ⟨hnil, by simp, hf.2.2.2.2⟩
        · exact rls_facts l most n _ _ (allLt_rep acc _ h1 hf.1 _) hf.2.2.2.2
    · exact ⟨hnil, Nat.le_trans hf.2.2.1 (by omega), hf.2.2.2.2⟩
theorem rrl_facts (l : List UInt8) (a most : Nat) (ha : a ≤ l.length) : AllLt (rrl l a most).1 ∧ (rrl l a most).2.1 ≤ 4 ∧ (rrl l a most).2.2 ≤ l.length := by
  have hf := vrd_facts l a ha
  have hnil : AllLt [] := fun i hi => by simp at hi
  unfold rrl
  rw [if_neg (by omega)]
  split
  · exact rls_facts l (most : Int).toNat (vrd l a).1 (vrd l a).2.2 [] hnil hf.2.2.2
  · exact ⟨hnil, Nat.le_trans hf.2.1 (by omega), hf.2.2.2⟩
theorem drl_facts (l : List UInt8) (a most : Nat) (ha : a ≤ l.length) : AllLt (drl l a most).1 ∧ (drl l a most).2.1 ≤ 4 ∧ (drl l a most).2.2 ≤ l.length := by
  have hf := vrl_facts l a most ha
  have hnil : AllLt [] := fun i hi => by simp at hi
  unfold drl
  refine ⟨?_, hf.2.2.1, hf.2.2.2.2⟩
  dsimp only
  split
  · exact sums_lt _
  · exact hnil
theorem smallN_lt (n : Nat) : smallN n < 18446744073709551616 := by unfold smallN; split <;> omega
section
variable {S : Nat → Prop} {W w : World} {M : List Thing}
theorem evs_cell {g c n : Nat} {l : List Ev} (h : St S W w (ownT 36 5 (.slice (some ⟨g, 0, none⟩) n c) n (evsV l) :: M)) (hl : l.length = n) (i j : Nat) (hi : i < n) (hj : j < 5) :
    ∃ u, w.cell? ⟨g, i * 5 + j, none⟩ = some u := by
  have h1 := h.own.cell (i * 5 + j) (by omega)
  rw [show (evsV l)[i * 5 + j]? = (evC (l.getD i default))[j]? from flat_get evC_len l i (by omega) j hj, List.getElem?_eq_getElem (by rw [evC_len]; exact hj)] at h1
  exact ⟨_, h1⟩
end
theorem fill_ok (b1 b2 b3 j : Nat) (hj : j < 4) : FillOK (strm b1 b2 b3 j) := by
  match j, hj with
  | 0, _ =>
    refine ⟨fun b s a most h hs ha hm => runread_st h hs ha most (by omega), rrl_facts, fun {S W w M} g c n l i v h hl hi hv => ?_, fun e v h _ => h, fun e v => rfl⟩
    obtain ⟨u, hu⟩ := evs_cell h hl i 1 hi (by omega)
    refine (setk_any g (i * 5) v u w hv hu (h.own.free _)).mono ?_
    rintro _ _ ⟨rfl, rfl⟩
    refine ⟨rfl, ?_⟩
    have := h.stored (i * 5 + 1) (.int .i64 (smallN v : Nat))
    rwa [evs_set l i 1 (by omega) (by omega) _ ⟨(l.getD i default).th, (smallN v : Nat), (l.getD i default).rg, (l.getD i default).tk, (l.getD i default).vl⟩ rfl] at this
  | 1, _ =>
    refine ⟨fun b s a most h hs ha hm => runread_st h hs ha most (by omega), rrl_facts, fun {S W w M} g c n l i v h hl hi hv => ?_, fun e v h _ => h, fun e v => rfl⟩
    obtain ⟨u, hu⟩ := evs_cell h hl i 2 hi (by omega)
    refine (setr_any g (i * 5) v u w hv hu (h.own.free _)).mono ?_
    rintro _ _ ⟨rfl, rfl⟩
    refine ⟨rfl, ?_⟩
    have := h.stored (i * 5 + 2) (.int .i64 (smallN v : Nat))
    rwa [evs_set l i 2 (by omega) (by omega) _ ⟨(l.getD i default).th, (l.getD i default).kd, (smallN v : Nat), (l.getD i default).tk, (l.getD i default).vl⟩ rfl] at this
  | 2, _ =>
    refine ⟨fun b s a most h hs ha hm => dread_st h hs ha most (by omega), drl_facts, fun {S W w M} g c n l i v h hl hi hv => ?_, fun e v h _ => h, fun e v => rfl⟩
    obtain ⟨u, hu⟩ := evs_cell h hl i 3 hi (by omega)
    refine (sett_any g (i * 5) v u w hu (h.own.free _)).mono ?_
    rintro _ _ ⟨rfl, rfl⟩
    refine ⟨rfl, ?_⟩
    have := h.stored (i * 5 + 3) (.int .u64 (v : Nat))
    rwa [evs_set l i 3 (by omega) (by omega) _ ⟨(l.getD i default).th, (l.getD i default).kd, (l.getD i default).rg, v, (l.getD i default).vl⟩ rfl] at this
  | 3, _ =>
    refine ⟨fun b s a most h hs ha hm => dread_st h hs ha most (by omega), drl_facts, fun {S W w M} g c n l i v h hl hi hv => ?_, fun e v _ h => h, fun e v => rfl⟩
    obtain ⟨u, hu⟩ := evs_cell h hl i 4 hi (by omega)
    refine (setv_any g (i * 5) v u w hu (h.own.free _)).mono ?_
    rintro _ _ ⟨rfl, rfl⟩
    refine ⟨rfl, ?_⟩
    have := h.stored (i * 5 + 4) (.int .u64 (v : Nat))
    rwa [evs_set l i 4 (by omega) (by omega) _ ⟨(l.getD i default).th, (l.getD i default).kd, (l.getD i default).rg, (l.getD i default).tk, v⟩ rfl] at this
end Go.Proofs.YtjdglpngcdcneaaGreat
