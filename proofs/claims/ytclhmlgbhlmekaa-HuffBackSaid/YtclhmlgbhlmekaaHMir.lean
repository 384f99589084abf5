/- Layer 7: what huff.Lengths does, plain. -/
import Derived.Test.YtclhmlgbhlmekaaHLeaf
import Derived.Test.YtclhmlgbhlmekaaTab
import Derived.Test.YtclhmlgbhlmekaaHTake
namespace Go.Proofs.Ytclhmlgbhlmekaa
open Go.RowKit
set_option linter.unusedVariables false
set_option linter.unusedSimpArgs false
structure HS where
  l : List WN
  n : Nat
  ls : Nat → List UInt8
  tab : Nat → Nat
def incs (t : Nat → Nat) : List UInt8 → Nat → Nat
  | [] => t
  | x :: r => incs (upd t x.toNat ((t x.toNat + 1) % 256)) r
theorem incs_lt {t : Nat → Nat} (h : ∀ i, t i < 256) : ∀ (r : List UInt8), ∀ i, incs t r i < 256 := by
  intro r
  induction r generalizing t with
  | nil => exact h
  | cons x r ih =>
    refine ih (fun i => ?_)
    unfold upd
    split
    · exact Nat.mod_lt _ (by omega)
    · exact h i
theorem incs_snoc (t : Nat → Nat) (r : List UInt8) (x : UInt8) : incs t (r ++ [x]) = upd (incs t r) x.toNat ((incs t r x.toNat + 1) % 256) := by
  induction r generalizing t with
  | nil => rfl
  | cons y r ih => exact ih _
def leafS (f : Nat → Nat) : Nat → HS
  | 0 => ⟨[], 0, fun _ => [], fun _ => 0⟩
  | i + 1 => if 0 < f i then ⟨(leafS f i).l ++ [(f i, (leafS f i).n)], (leafS f i).n + 1, updA (leafS f i).ls (leafS f i).n [UInt8.ofNat i], fun _ => 0⟩ else leafS f i
def sumW (a b : Nat) : Nat := if a + b < 18446744073709551616 then a + b else 18446744073709551615
def popL (l : List WN) : List WN := (hpop l).take (l.length - 1)
def bsOf (s : HS) : List UInt8 := s.ls (hget s.l 0).2 ++ s.ls (hget (popL s.l) 0).2
def roundS (s : HS) : HS := ⟨hpush (popL (popL s.l)) (sumW (hget s.l 0).1 (hget (popL s.l) 0).1, s.n), s.n + 1, updA s.ls s.n (bsOf s), incs s.tab (bsOf s)⟩
def roundsS : Nat → HS → HS
  | 0, s => s
  | k + 1, s => if s.l.length ≤ 1 then s else roundsS k (roundS s)
/-- the heap that the rounds begin with -/
def heapS (s : HS) : HS := ⟨hinit (s.n / 2) s.l, s.n, s.ls, fun _ => 0⟩
def lenS (s : HS) : Nat → Nat := if s.l.length = 1 then upd (fun _ => 0) ((s.ls 0).head?.getD 0).toNat 1 else (roundsS (heapS s).l.length (heapS s)).tab
def lenT (f : Nat → Nat) : Nat → Nat := lenS (leafS f 256)
def totS (ls : Nat → List UInt8) (l : List WN) : Nat := (l.map fun x => (ls x.2).length).sum
structure HOK (s : HS) : Prop where
  num : ∀ x ∈ s.l, x.2 < s.n
  wt : ∀ x ∈ s.l, x.1 < 18446744073709551616
  pos : ∀ x ∈ s.l, 0 < (s.ls x.2).length
  tot : totS s.ls s.l ≤ 256
  few : s.n + s.l.length ≤ 512
  tab : ∀ i, s.tab i < 256
theorem tot_perm {ls : Nat → List UInt8} {l m : List WN} (h : l.Perm m) : totS ls l = totS ls m := (h.map _).sum_nat
theorem tot_append (ls : Nat → List UInt8) (l m : List WN) : totS ls (l ++ m) = totS ls l + totS ls m := by unfold totS; simp
theorem tot_congr {ls ks : Nat → List UInt8} {l : List WN} (h : ∀ x ∈ l, ls x.2 = ks x.2) : totS ls l = totS ks l := by
  unfold totS
  rw [List.map_congr_left (fun x hx => by rw [h x hx])]
theorem tot_mem {ls : Nat → List UInt8} : ∀ {l : List WN} {x : WN}, x ∈ l → (ls x.2).length ≤ totS ls l
  | y :: l, x, h => by
    have e : totS ls (y :: l) = (ls y.2).length + totS ls l := by unfold totS; rw [List.map_cons, List.sum_cons]
    rw [e]
    rcases List.mem_cons.1 h with rfl | h
    · omega
    · have := tot_mem (ls := ls) h; omega
theorem popL_perm (l : List WN) (h : 0 < l.length) : (popL l ++ [hget l 0]).Perm l := by
  have h1 : popL l ++ [hget l 0] = hpop l := by
    have hl := hpop_len l
    have e : hpop l = (hpop l).take (l.length - 1) ++ (hpop l).drop (l.length - 1) := (List.take_append_drop _ _).symm
    have e2 : (hpop l).drop (l.length - 1) = [hget (hpop l) (l.length - 1)] := by
      rw [hget_lt _ _ (by omega), List.drop_eq_getElem_cons (by omega), List.drop_of_length_le (by omega)]
    rw [← hpop_last l h]
    unfold popL
    rw [← e2]; exact e.symm
  rw [h1]; exact hpop_perm l h
theorem popL_len (l : List WN) : (popL l).length = l.length - 1 := by unfold popL; rw [List.length_take, hpop_len]; omega
theorem leafS_ok (f : Nat → Nat) (hf : ∀ i, f i < 18446744073709551616) : ∀ i, (leafS f i).n = (leafS f i).l.length ∧ (leafS f i).n ≤ i ∧ (∀ x ∈ (leafS f i).l, x.2 < (leafS f i).n ∧ x.1 < 18446744073709551616 ∧ ((leafS f i).ls x.2).length = 1) ∧ (leafS f i).tab = fun _ => 0
  | 0 => ⟨rfl, Nat.le_refl _, fun x hx => (List.not_mem_nil hx).elim, rfl⟩
  | i + 1 => by
    obtain ⟨h1, h2, h3, h4⟩ := leafS_ok f hf i
    unfold leafS
    split
    · refine ⟨by simp [h1], by show (leafS f i).n + 1 ≤ i + 1; omega, fun x hx => ?_, rfl⟩
      rcases List.mem_append.1 hx with hx | hx
      · obtain ⟨a, b, c⟩ := h3 x hx
        refine ⟨by show x.2 < (leafS f i).n + 1; omega, b, ?_⟩
        show (updA (leafS f i).ls _ _ x.2).length = 1
        rw [updA_ne _ _ (by omega)]; exact c
      · obtain rfl := List.mem_singleton.1 hx
        refine ⟨by show (leafS f i).n < (leafS f i).n + 1; omega, hf i, ?_⟩
        show (updA (leafS f i).ls _ _ (leafS f i).n).length = 1
        rw [updA_self]; rfl
    · exact ⟨h1, by omega, h3, h4⟩
theorem tot_ones {ls : Nat → List UInt8} : ∀ {l : List WN}, (∀ x ∈ l, (ls x.2).length = 1) → totS ls l = l.length
  | [], _ => rfl
  | y :: l, h => by
    have := tot_ones (ls := ls) (l := l) (fun x hx => h x (List.mem_cons_of_mem _ hx))
    unfold totS at *
    rw [List.map_cons, List.sum_cons, this, h y (List.mem_cons_self ..), List.length_cons]; omega
theorem start_ok (f : Nat → Nat) (hf : ∀ i, f i < 18446744073709551616) (i : Nat) (hi : i ≤ 256) : HOK (heapS (leafS f i)) := by
  obtain ⟨h1, h2, h3, h4⟩ := leafS_ok f hf i
  have hp := hinit_perm ((leafS f i).n / 2) (leafS f i).l
  refine ⟨fun x hx => (h3 x (hp.mem_iff.1 hx)).1, fun x hx => (h3 x (hp.mem_iff.1 hx)).2.1, fun x hx => ?_, ?_, ?_, fun i => by show 0 < 256; omega⟩
  · show 0 < ((leafS f i).ls x.2).length
    rw [(h3 x (hp.mem_iff.1 hx)).2.2]; omega
  · show totS (leafS f i).ls (hinit _ _) ≤ _
    rw [tot_perm hp, tot_ones (fun x hx => (h3 x hx).2.2)]; omega
  · show (leafS f i).n + (hinit _ _).length ≤ _
    rw [hinit_len]; omega
theorem two_perm (l : List WN) (h : 2 ≤ l.length) : ((popL (popL l) ++ [hget (popL l) 0]) ++ [hget l 0]).Perm l :=
  ((popL_perm (popL l) (by rw [popL_len]; omega)).append_right _).trans (popL_perm l (by omega))
theorem sumW_lt (a b : Nat) : sumW a b < 18446744073709551616 := by unfold sumW; split <;> omega
theorem round_ok (s : HS) (h : HOK s) (h2 : 2 ≤ s.l.length) : HOK (roundS s) := by
  have hp := two_perm s.l h2
  have hq := hpush_perm (popL (popL s.l)) (sumW (hget s.l 0).1 (hget (popL s.l) 0).1, s.n)
  have m0 : hget s.l 0 ∈ s.l := hp.mem_iff.1 (by simp)
  have m1 : hget (popL s.l) 0 ∈ s.l := hp.mem_iff.1 (by simp)
  have mm : ∀ x ∈ popL (popL s.l), x ∈ s.l := fun x hx => hp.mem_iff.1 (by simp [hx])
  have ht := tot_perm (ls := s.ls) hp
  rw [tot_append, tot_append] at ht
  have t0 : totS s.ls [hget s.l 0] = (s.ls (hget s.l 0).2).length := by simp [totS]
  have t1 : totS s.ls [hget (popL s.l) 0] = (s.ls (hget (popL s.l) 0).2).length := by simp [totS]
  have hcase : ∀ x ∈ (roundS s).l, x ∈ popL (popL s.l) ∨ x = (sumW (hget s.l 0).1 (hget (popL s.l) 0).1, s.n) := fun x hx => by
    rcases List.mem_append.1 (hq.mem_iff.1 hx) with h | h
    · exact .inl h
    · exact .inr (List.mem_singleton.1 h)
  refine ⟨fun x hx => ?_, fun x hx => ?_, fun x hx => ?_, ?_, ?_, incs_lt h.tab _⟩
  · show x.2 < s.n + 1
    rcases hcase x hx with h1 | rfl
    · have := h.num x (mm x h1); omega
    · show s.n < s.n + 1; omega
  · rcases hcase x hx with h1 | rfl
    · exact h.wt x (mm x h1)
    · exact sumW_lt _ _
  · show 0 < (updA s.ls s.n (bsOf s) x.2).length
    rcases hcase x hx with h1 | rfl
    · rw [updA_ne _ _ (by have := h.num x (mm x h1); omega)]; exact h.pos x (mm x h1)
    · rw [updA_self]; unfold bsOf; rw [List.length_append]; have := h.pos _ m0; omega
  · show totS (updA s.ls s.n (bsOf s)) (hpush _ _) ≤ 256
    rw [tot_perm hq, tot_append, tot_congr (ls := updA s.ls s.n (bsOf s)) (ks := s.ls) (l := popL (popL s.l)) (fun x hx => updA_ne _ _ (by have := h.num x (mm x hx); omega))]
    have e : totS (updA s.ls s.n (bsOf s)) [(sumW (hget s.l 0).1 (hget (popL s.l) 0).1, s.n)] = (bsOf s).length := by simp [totS, updA_self]
    have := h.tot
    rw [e]; unfold bsOf; rw [List.length_append]; omega
  · show s.n + 1 + (hpush _ _).length ≤ 512
    rw [hpush_len, popL_len, popL_len]; have := h.few; omega
theorem round_len (s : HS) (h2 : 2 ≤ s.l.length) : (roundS s).l.length = s.l.length - 1 := by
  show (hpush _ _).length = _
  rw [hpush_len, popL_len, popL_len]; omega
theorem rounds_step (s : HS) (h2 : 2 ≤ s.l.length) : roundsS s.l.length s = roundsS (roundS s).l.length (roundS s) := by
  rw [round_len s h2]
  obtain ⟨k, hk⟩ : ∃ k, s.l.length = k + 1 := ⟨s.l.length - 1, by omega⟩
  rw [hk]
  show (if s.l.length ≤ 1 then s else roundsS k (roundS s)) = _
  rw [if_neg (by omega)]; rfl
theorem rounds_end (s : HS) (h2 : s.l.length ≤ 1) : roundsS s.l.length s = s := by
  cases hk : s.l.length with
  | zero => rfl
  | succ k => show (if s.l.length ≤ 1 then s else roundsS k (roundS s)) = s; rw [if_pos h2]
/-- the slices of other numbers don't matter -/
theorem hpT_congr (b : Nat) (A : Option Addr) (n c : Nat) {vs us : Nat → Value} {l : List WN} (M : List Thing) (h : ∀ x ∈ l, vs x.2 = us x.2) : hpT b A n c vs l M = hpT b A n c us l M := by
  unfold hpT
  have e : l.flatMap (trC vs) = l.flatMap (trC us) := by
    rw [List.flatMap_def, List.flatMap_def, List.map_congr_left (fun x hx => show trC vs x = trC us x by unfold trC; rw [h x hx])]
  rw [e]
end Go.Proofs.Ytclhmlgbhlmekaa
