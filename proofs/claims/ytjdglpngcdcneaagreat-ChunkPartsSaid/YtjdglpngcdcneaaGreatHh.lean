/- Texts of this work, put together: HForest, HDepth, HCost, HLenT, HLenU, HUnpack, RBack, HBack. -/
import Derived.Test.YtjdglpngcdcneaaGreatHf
import Derived.Test.YtjdglpngcdcneaaGreatHg
import Derived.Test.YtjdglpngcdcneaaGreatHd
/- Layer 7: the rounds, told of a row of trees in no order: plain. -/
namespace Go.Proofs.YtjdglpngcdcneaaGreat
open Go.RowKit
set_option linter.unusedVariables false
set_option linter.unusedSimpArgs false
set_option linter.unusedSectionVars false
/-- a tree: weight, number, bytes -/
abbrev Tr := Nat × Nat × List UInt8
def trOf (s : HS) (x : WN) : Tr := (x.1, x.2, s.ls x.2)
def forest (s : HS) : List Tr := s.l.map (trOf s)
/-- the heap is one -/
def HeapOK (s : HS) : Prop := Hp s.l 0 s.l.length
theorem popL_get (l : List WN) (h0 : 0 < l.length) (h : Hp l 0 l.length) : Hp (popL l) 0 (popL l).length := by
  have h1 := hpop_heap l h
  rw [popL_len]
  intro k hk1 hk2 hk3
  have h2 := h1 k hk1 hk2 hk3
  unfold popL
  rw [hget_take _ _ _ (by omega), hget_take _ _ _ (by omega)]
  exact h2
theorem heap_round (s : HS) (h : HeapOK s) (h2 : 2 ≤ s.l.length) : HeapOK (roundS s) := by
  have h1 := popL_get s.l (by omega) h
  have h3 := popL_get (popL s.l) (by rw [popL_len]; omega) h1
  have h4 := hpush_heap (popL (popL s.l)) (sumW (hget s.l 0).1 (hget (popL s.l) 0).1, s.n) h3
  show Hp (hpush _ _) 0 (hpush _ _).length
  rw [hpush_len]; exact h4
theorem heap_start (f : Nat → Nat) (i : Nat) (hn : (leafS f i).n = (leafS f i).l.length) : HeapOK (heapS (leafS f i)) := by
  show Hp (hinit _ _) 0 (hinit _ _).length
  rw [hinit_len, hn]; exact hinit_all _
/-- a smaller tree comes first; of equal ones the one with the smaller number -/
def tle (a b : Tr) : Prop := wle (a.1, a.2.1) (b.1, b.2.1)
theorem least_of {l : List WN} (h : Hp l 0 l.length) {x : WN} (hx : x ∈ l) : wle (hget l 0) x := by
  obtain ⟨k, hk, rfl⟩ := List.mem_iff_getElem.1 hx
  have := heap_least l l.length h k hk
  rwa [hget_lt l k hk] at this
theorem round_forest (s : HS) (hok : HOK s) (h : HeapOK s) (h2 : 2 ≤ s.l.length) :
    ∃ (x0 x1 : Tr) (rest : List Tr), (forest s).Perm (x0 :: x1 :: rest) ∧ (forest (roundS s)).Perm ((sumW x0.1 x1.1, s.n, x0.2.2 ++ x1.2.2) :: rest) ∧ bsOf s = x0.2.2 ++ x1.2.2 ∧
      (∀ y ∈ x1 :: rest, tle x0 y) ∧ (∀ y ∈ rest, tle x1 y) := by
  have hp := two_perm s.l h2
  have h1 := popL_get s.l (by omega) h
  have hpl : ∀ x ∈ popL s.l, x ∈ s.l := fun x hx => (popL_perm s.l (by omega)).mem_iff.1 (by simp [hx])
  have hpp : ∀ x ∈ popL (popL s.l), x ∈ popL s.l := fun x hx => (popL_perm (popL s.l) (by rw [popL_len]; omega)).mem_iff.1 (by simp [hx])
  have hq := hpush_perm (popL (popL s.l)) (sumW (hget s.l 0).1 (hget (popL s.l) 0).1, s.n)
  have m1 : hget (popL s.l) 0 ∈ s.l := hp.mem_iff.1 (by simp)
  refine ⟨trOf s (hget s.l 0), trOf s (hget (popL s.l) 0), (popL (popL s.l)).map (trOf s), ?_, ?_, rfl, ?_, ?_⟩
  · have h5 : (popL (popL s.l) ++ [hget (popL s.l) 0] ++ [hget s.l 0]).Perm (hget s.l 0 :: hget (popL s.l) 0 :: popL (popL s.l)) := by
      refine (List.perm_append_singleton _ _).trans ?_
      exact List.Perm.cons _ (List.perm_append_singleton _ _)
    exact ((hp.symm.trans h5).map (trOf s))
  · have e : forest (roundS s) = (hpush (popL (popL s.l)) (sumW (hget s.l 0).1 (hget (popL s.l) 0).1, s.n)).map (trOf (roundS s)) := rfl
    rw [e]
    refine (hq.map _).trans ?_
    rw [List.map_append]
    refine (List.perm_append_singleton _ _).trans ?_
    have e1 : trOf (roundS s) (sumW (hget s.l 0).1 (hget (popL s.l) 0).1, s.n) = (sumW (hget s.l 0).1 (hget (popL s.l) 0).1, s.n, s.ls (hget s.l 0).2 ++ s.ls (hget (popL s.l) 0).2) := by
      show (_, _, updA s.ls s.n (bsOf s) s.n) = _
      rw [updA_self]; rfl
    rw [e1]
    refine List.Perm.cons _ ?_
    rw [List.map_congr_left (fun x hx => ?_)]
    show (x.1, x.2, updA s.ls s.n (bsOf s) x.2) = _
    rw [updA_ne _ _ (by have := hok.num x (hpl x (hpp x hx)); omega)]; rfl
  · intro y hy
    rcases List.mem_cons.1 hy with rfl | hy
    · exact least_of h m1
    · obtain ⟨x, hx, rfl⟩ := List.mem_map.1 hy
      exact least_of h (hpl x (hpp x hx))
  · intro y hy
    obtain ⟨x, hx, rfl⟩ := List.mem_map.1 hy
    exact least_of h1 (hpp x hx)
/-- how deep each byte is -/
def depS : Nat → HS → (Nat → Nat) → Nat → Nat
  | 0, s, d => d
  | k + 1, s, d => if s.l.length ≤ 1 then d else depS k (roundS s) (fun i => d i + cntF (bsOf s) i)
theorem incs_cnt : ∀ (bs : List UInt8) (t : Nat → Nat), (∀ i, t i < 256) → ∀ i, incs t bs i = (t i + cntF bs i) % 256
  | [], t, h, i => by rw [incs, show cntF [] i = 0 from rfl, Nat.add_zero, Nat.mod_eq_of_lt (h i)]
  | x :: r, t, h, i => by
    rw [incs, incs_cnt r _ (fun j => by unfold upd; split; exact Nat.mod_lt _ (by omega); exact h j)]
    have e : cntF (x :: r) i = cntF r i + (if x.toNat = i then 1 else 0) := by
      unfold cntF; rw [List.countP_cons]; simp
    rw [e]
    unfold upd
    by_cases h1 : i = x.toNat
    · rw [if_pos h1, if_pos h1.symm, h1]; omega
    · rw [if_neg h1, if_neg (fun e => h1 e.symm)]; rfl
theorem rounds_dep : ∀ (k : Nat) (s : HS) (d : Nat → Nat), s.tab = (fun i => d i % 256) → (roundsS k s).tab = fun i => depS k s d i % 256
  | 0, s, d, h => h
  | k + 1, s, d, h => by
    rw [roundsS, depS]
    by_cases h1 : s.l.length ≤ 1
    · rw [if_pos h1, if_pos h1]; exact h
    · rw [if_neg h1, if_neg h1]
      refine rounds_dep k _ _ ?_
      funext i
      show incs s.tab (bsOf s) i = _
      rw [incs_cnt _ _ (fun j => by rw [h]; exact Nat.mod_lt _ (by omega)), h]
      dsimp only
      omega
/-- what holds of the trees and the depths holds behind the rounds, where each round keeps it -/
theorem rounds_keep (Q : List Tr → Nat → (Nat → Nat) → Prop) (hperm : ∀ F G n d, F.Perm G → Q F n d → Q G n d)
    (hstep : ∀ (x0 x1 : Tr) (rest : List Tr) (n : Nat) (d : Nat → Nat), (∀ y ∈ x1 :: rest, tle x0 y) → (∀ y ∈ rest, tle x1 y) → Q (x0 :: x1 :: rest) n d → Q ((sumW x0.1 x1.1, n, x0.2.2 ++ x1.2.2) :: rest) (n + 1) (fun i => d i + cntF (x0.2.2 ++ x1.2.2) i)) :
    ∀ (k : Nat) (s : HS) (d : Nat → Nat), s.l.length ≤ k + 1 → HOK s → HeapOK s → Q (forest s) s.n d → ∃ n, Q (forest (roundsS k s)) n (depS k s d) ∧ (roundsS k s).l.length ≤ 1
  | 0, s, d, hl, hok, hh, hQ => ⟨s.n, hQ, hl⟩
  | k + 1, s, d, hl, hok, hh, hQ => by
    rw [roundsS, depS]
    by_cases h1 : s.l.length ≤ 1
    · rw [if_pos h1, if_pos h1]; exact ⟨s.n, hQ, h1⟩
    · rw [if_neg h1, if_neg h1]
      obtain ⟨x0, x1, rest, p1, p2, hb, l0, l1⟩ := round_forest s hok hh (by omega)
      have hQ2 := hstep x0 x1 rest s.n d l0 l1 (hperm _ _ _ _ p1 hQ)
      rw [← hb] at hQ2 p2
      have hQ3 := hperm _ _ _ _ p2.symm hQ2
      exact rounds_keep Q hperm hstep k (roundS s) _ (by rw [round_len s (by omega)]; omega) (round_ok s hok (by omega)) (heap_round s hh (by omega)) hQ3
end Go.Proofs.YtjdglpngcdcneaaGreat

/- Layer 7: the trees' depths: they fill the room (Kraft), and are few (Fibonacci): plain. -/
namespace Go.Proofs.YtjdglpngcdcneaaGreat
open Go.RowKit
set_option linter.unusedVariables false
set_option linter.unusedSimpArgs false
set_option linter.unusedSectionVars false
theorem cntF_none {bs : List UInt8} {i : Nat} (h : ∀ c ∈ bs, c.toNat ≠ i) : cntF bs i = 0 := by
  unfold cntF
  rw [List.countP_eq_zero]
  intro c hc
  simpa using h c hc
theorem cntF_one : ∀ {bs : List UInt8} {c : UInt8}, bs.Nodup → c ∈ bs → cntF bs c.toNat = 1
  | x :: r, c, hn, hc => by
    obtain ⟨h1, h2⟩ := List.nodup_cons.1 hn
    have e : cntF (x :: r) c.toNat = cntF r c.toNat + (if x.toNat = c.toNat then 1 else 0) := by
      unfold cntF; rw [List.countP_cons]; simp
    rw [e]
    rcases List.mem_cons.1 hc with rfl | hc
    · rw [if_pos rfl, cntF_none (fun d hd e => h1 (by rw [← UInt8.toNat_inj.1 e]; exact hd))]
    · rw [if_neg (fun e => h1 (by rw [UInt8.toNat_inj.1 e]; exact hc)), cntF_one h2 hc]
def krf (d : Nat → Nat) (bs : List UInt8) : Nat := (bs.map fun c => 2 ^ (255 - d c.toNat)).sum
theorem krf_append (d : Nat → Nat) (a b : List UInt8) : krf d (a ++ b) = krf d a + krf d b := by unfold krf; rw [List.map_append, List.sum_append]
theorem krf_congr {d e : Nat → Nat} {bs : List UInt8} (h : ∀ c ∈ bs, d c.toNat = e c.toNat) : krf d bs = krf e bs := by
  unfold krf; rw [List.map_congr_left (fun c hc => by rw [h c hc])]
theorem krf_half (d : Nat → Nat) : ∀ (bs : List UInt8), (∀ c ∈ bs, d c.toNat + 1 ≤ 255) → 2 * krf (fun i => d i + 1) bs = krf d bs
  | [], _ => rfl
  | c :: r, h => by
    have h1 := krf_half d r (fun x hx => h x (List.mem_cons_of_mem _ hx))
    have h2 := h c (List.mem_cons_self ..)
    unfold krf at *
    rw [List.map_cons, List.sum_cons, List.map_cons, List.sum_cons, Nat.mul_add, h1]
    congr 1
    rw [show 255 - d c.toNat = (255 - (d c.toNat + 1)) + 1 by omega, Nat.pow_succ, Nat.mul_comm]
/-- what the rounds keep: the bytes, the room, the depths -/
structure QK (L0 : List UInt8) (F : List Tr) (d : Nat → Nat) : Prop where
  bytes : (F.flatMap (·.2.2)).Perm L0
  off : ∀ i, (∀ c ∈ L0, c.toNat ≠ i) → d i = 0
  room : ∀ T ∈ F, krf d T.2.2 = 2 ^ 255
  deep : ∀ T ∈ F, ∀ c ∈ T.2.2, d c.toNat + 1 ≤ T.2.2.length
theorem QK.perm {L0 : List UInt8} {F G : List Tr} {d : Nat → Nat} (hp : F.Perm G) (h : QK L0 F d) : QK L0 G d :=
  ⟨(hp.symm.flatMap_right _).trans h.bytes, h.off, fun T hT => h.room T (hp.mem_iff.2 hT), fun T hT => h.deep T (hp.mem_iff.2 hT)⟩
theorem QK.step {L0 : List UInt8} (h0 : L0.Nodup) (h256 : L0.length ≤ 256) {x0 x1 : Tr} {rest : List Tr} {d : Nat → Nat} (w n : Nat) (h : QK L0 (x0 :: x1 :: rest) d) :
    QK L0 ((w, n, x0.2.2 ++ x1.2.2) :: rest) (fun i => d i + cntF (x0.2.2 ++ x1.2.2) i) := by
  have hb := h.bytes
  rw [List.flatMap_cons, List.flatMap_cons, ← List.append_assoc] at hb
  have hnd := hb.nodup_iff.2 h0
  obtain ⟨n1, n2, n3⟩ := List.nodup_append.1 hnd
  have hr0 := h.room x0 (by simp)
  have hr1 := h.room x1 (by simp)
  have hd0 := h.deep x0 (by simp)
  have hd1 := h.deep x1 (by simp)
  have hl := hb.length_eq
  rw [List.length_append, List.length_append] at hl
  have ne : ∀ {bs : List UInt8}, krf d bs = 2 ^ 255 → 1 ≤ bs.length := fun {bs} e => by
    cases bs with
    | nil => have : krf d [] = 0 := rfl
             rw [this] at e; exact absurd e.symm (Nat.ne_of_gt (Nat.two_pow_pos _))
    | cons => rw [List.length_cons]; omega
  have z0 := ne hr0
  have z1 := ne hr1
  have hone : ∀ c ∈ x0.2.2 ++ x1.2.2, cntF (x0.2.2 ++ x1.2.2) c.toNat = 1 := fun c hc => cntF_one n1 hc
  have hoff : ∀ T ∈ rest, ∀ c ∈ T.2.2, cntF (x0.2.2 ++ x1.2.2) c.toNat = 0 := fun T hT c hc => cntF_none (fun c2 hc2 e => by
    have := n3 c2 hc2 c (List.mem_flatMap.2 ⟨T, hT, hc⟩)
    exact this (UInt8.toNat_inj.1 e))
  refine ⟨?_, fun i hi => ?_, fun T hT => ?_, fun T hT c hc => ?_⟩
  · rw [List.flatMap_cons]; exact hb
  · show d i + _ = 0
    rw [h.off i hi, cntF_none (fun c hc => hi c (hb.mem_iff.1 (List.mem_append_left _ hc)))]
  · rcases List.mem_cons.1 hT with rfl | hT
    · show krf _ (x0.2.2 ++ x1.2.2) = _
      rw [krf_congr (e := fun i => d i + 1) (fun c hc => by rw [hone c hc])]
      have h2 := krf_half d (x0.2.2 ++ x1.2.2) (fun c hc => by
        rcases List.mem_append.1 hc with h | h
        · have := hd0 c h; omega
        · have := hd1 c h; omega)
      rw [krf_append d, hr0, hr1] at h2
      omega
    · rw [krf_congr (e := d) (fun c hc => by rw [hoff T hT c hc]; rfl)]
      exact h.room T (by simp [hT])
  · rcases List.mem_cons.1 hT with rfl | hT
    · show d c.toNat + cntF _ c.toNat + 1 ≤ (x0.2.2 ++ x1.2.2).length
      rw [hone c hc, List.length_append]
      rcases List.mem_append.1 hc with h | h
      · have := hd0 c h; omega
      · have := hd1 c h; omega
    · show d c.toNat + cntF _ c.toNat + 1 ≤ _
      rw [hoff T hT c hc]
      exact h.deep T (by simp [hT]) c hc
def fib : Nat → Nat
  | 0 => 0
  | 1 => 1
  | n + 2 => fib n + fib (n + 1)
theorem fib_mono (n : Nat) : fib n ≤ fib (n + 1) := by
  cases n with
  | zero => decide
  | succ n => rw [show n + 1 + 1 = n + 2 from rfl, fib]; omega
/-- the weights: none is lost; a deep tree is a heavy one -/
structure QF (N : Nat) (F : List Tr) (d : Nat → Nat) : Prop where
  total : (F.map (·.1)).sum = N
  deep : ∀ T ∈ F, ∃ h, (∀ c ∈ T.2.2, d c.toNat ≤ h) ∧ fib (h + 2) ≤ T.1 ∧ ∀ U ∈ F, fib (h + 1) ≤ U.1
theorem QF.perm {N : Nat} {F G : List Tr} {d : Nat → Nat} (hp : F.Perm G) (h : QF N F d) : QF N G d :=
  ⟨((hp.symm.map _).sum_nat).trans h.total, fun T hT => by
    obtain ⟨k, h1, h2, h3⟩ := h.deep T (hp.mem_iff.2 hT)
    exact ⟨k, h1, h2, fun U hU => h3 U (hp.mem_iff.2 hU)⟩⟩
theorem tle_weight {a b : Tr} (h : tle a b) : a.1 ≤ b.1 := by
  unfold tle wle at h
  rw [wlt_no] at h
  simp only at h
  omega
theorem QF.step {L0 : List UInt8} (h0 : L0.Nodup) {N : Nat} (hN : N < 18446744073709551616) {x0 x1 : Tr} {rest : List Tr} {d : Nat → Nat} (n : Nat)
    (l0 : ∀ y ∈ x1 :: rest, tle x0 y) (l1 : ∀ y ∈ rest, tle x1 y) (hk : QK L0 (x0 :: x1 :: rest) d) (h : QF N (x0 :: x1 :: rest) d) :
    QF N ((sumW x0.1 x1.1, n, x0.2.2 ++ x1.2.2) :: rest) (fun i => d i + cntF (x0.2.2 ++ x1.2.2) i) := by
  have ht := h.total
  rw [List.map_cons, List.map_cons, List.sum_cons, List.sum_cons] at ht
  have hsw : sumW x0.1 x1.1 = x0.1 + x1.1 := by unfold sumW; rw [if_pos (by omega)]
  have hb := hk.bytes
  rw [List.flatMap_cons, List.flatMap_cons, ← List.append_assoc] at hb
  have hnd := hb.nodup_iff.2 h0
  obtain ⟨n1, n2, n3⟩ := List.nodup_append.1 hnd
  have hone : ∀ c ∈ x0.2.2 ++ x1.2.2, cntF (x0.2.2 ++ x1.2.2) c.toNat = 1 := fun c hc => cntF_one n1 hc
  have hoff : ∀ T ∈ rest, ∀ c ∈ T.2.2, cntF (x0.2.2 ++ x1.2.2) c.toNat = 0 := fun T hT c hc => cntF_none (fun c2 hc2 e => by
    have := n3 c2 hc2 c (List.mem_flatMap.2 ⟨T, hT, hc⟩)
    exact this (UInt8.toNat_inj.1 e))
  have w0 := fun y hy => tle_weight (l0 y hy)
  have w1 := fun y hy => tle_weight (l1 y hy)
  have w01 := w0 x1 (by simp)
  obtain ⟨k0, a1, a2, a3⟩ := h.deep x0 (by simp)
  obtain ⟨k1, b1, b2, b3⟩ := h.deep x1 (by simp)
  refine ⟨by rw [List.map_cons, List.sum_cons, hsw]; dsimp only; omega, fun T hT => ?_⟩
  rcases List.mem_cons.1 hT with rfl | hT
  · rcases Nat.le_total k1 k0 with hle | hle
    · refine ⟨k0 + 1, fun c hc => ?_, ?_, fun U hU => ?_⟩
      · show d c.toNat + cntF _ _ ≤ _
        rw [hone c hc]
        rcases List.mem_append.1 hc with h | h
        · have := a1 c h; omega
        · have := b1 c h; omega
      · show fib (k0 + 1 + 2) ≤ sumW x0.1 x1.1
        rw [hsw, show k0 + 1 + 2 = (k0 + 1) + 2 from rfl, fib]
        have := a3 x1 (by simp)
        have e : fib (k0 + 1 + 1) = fib (k0 + 2) := rfl
        omega
      · rcases List.mem_cons.1 hU with rfl | hU
        · show fib (k0 + 1 + 1) ≤ sumW x0.1 x1.1
          rw [hsw, show k0 + 1 + 1 = k0 + 2 from rfl]; omega
        · have := w0 U (by simp [hU])
          rw [show k0 + 1 + 1 = k0 + 2 from rfl]; omega
    · refine ⟨k1 + 1, fun c hc => ?_, ?_, fun U hU => ?_⟩
      · show d c.toNat + cntF _ _ ≤ _
        rw [hone c hc]
        rcases List.mem_append.1 hc with h | h
        · have := a1 c h; omega
        · have := b1 c h; omega
      · show fib (k1 + 1 + 2) ≤ sumW x0.1 x1.1
        rw [hsw, show k1 + 1 + 2 = (k1 + 1) + 2 from rfl, fib]
        have := b3 x0 (by simp)
        have e : fib (k1 + 1 + 1) = fib (k1 + 2) := rfl
        omega
      · rcases List.mem_cons.1 hU with rfl | hU
        · show fib (k1 + 1 + 1) ≤ sumW x0.1 x1.1
          rw [hsw, show k1 + 1 + 1 = k1 + 2 from rfl]; omega
        · have := w1 U hU
          rw [show k1 + 1 + 1 = k1 + 2 from rfl]; omega
  · obtain ⟨k, c1, c2, c3⟩ := h.deep T (by simp [hT])
    refine ⟨k, fun c hc => by show d c.toNat + _ ≤ k; rw [hoff T hT c hc]; exact c1 c hc, c2, fun U hU => ?_⟩
    rcases List.mem_cons.1 hU with rfl | hU
    · show _ ≤ sumW x0.1 x1.1
      rw [hsw]
      have := c3 x0 (by simp)
      omega
    · exact c3 U (by simp [hU])
end Go.Proofs.YtjdglpngcdcneaaGreat

/- Layer 7: the bits of all bytes are no more than eight each: plain. -/
namespace Go.Proofs.YtjdglpngcdcneaaGreat
open Go.RowKit
set_option linter.unusedVariables false
set_option linter.unusedSimpArgs false
set_option linter.unusedSectionVars false
/-- a number put into a rising row -/
def ins (x : Nat) : List Nat → List Nat
  | [] => [x]
  | y :: l => if x ≤ y then x :: y :: l else y :: ins x l
theorem ins_perm (x : Nat) : ∀ l, (ins x l).Perm (x :: l)
  | [] => List.Perm.refl _
  | y :: l => by
    rw [ins]
    split
    · exact List.Perm.refl _
    · exact ((ins_perm x l).cons y).trans (List.Perm.swap x y l)
theorem ins_rise (x : Nat) : ∀ l, l.Pairwise (· ≤ ·) → (ins x l).Pairwise (· ≤ ·)
  | [], _ => by rw [ins]; exact List.pairwise_singleton _ _
  | y :: l, h => by
    obtain ⟨h1, h2⟩ := List.pairwise_cons.1 h
    rw [ins]
    split
    · rename_i hxy
      refine List.pairwise_cons.2 ⟨fun z hz => ?_, h⟩
      rcases List.mem_cons.1 hz with rfl | hz
      · exact hxy
      · exact Nat.le_trans hxy (h1 z hz)
    · rename_i hxy
      refine List.pairwise_cons.2 ⟨fun z hz => ?_, ins_rise x l h2⟩
      rcases List.mem_cons.1 ((ins_perm x l).mem_iff.1 hz) with rfl | hz
      · omega
      · exact h1 z hz
theorem top_ins (x : Nat) : ∀ (l : List Nat), l.Pairwise (· ≤ ·) → ∀ j, j ≤ l.length → (l.drop j).sum + x ≤ ((ins x l).drop j).sum
  | [], _, j, hj => by
    rw [List.length_nil] at hj
    rw [Nat.le_zero.1 hj]
    simp [ins]
  | y :: l, h, j, hj => by
    obtain ⟨h1, h2⟩ := List.pairwise_cons.1 h
    rw [ins]
    split
    · rename_i hxy
      cases j with
      | zero => simp only [List.drop_zero, List.sum_cons]; omega
      | succ j =>
        rw [List.drop_succ_cons, List.drop_succ_cons]
        rw [List.length_cons] at hj
        have hj2 : j < (y :: l).length := by rw [List.length_cons]; omega
        rw [List.drop_eq_getElem_cons hj2, List.drop_succ_cons, List.sum_cons]
        have hm : (y :: l)[j] ∈ y :: l := List.getElem_mem _
        have : x ≤ (y :: l)[j] := by
          rcases List.mem_cons.1 hm with e | e
          · omega
          · have := h1 _ e; omega
        omega
    · cases j with
      | zero =>
        have e := (ins_perm x l).sum_nat
        simp only [List.drop_zero, List.sum_cons] at e ⊢
        omega
      | succ j =>
        rw [List.length_cons] at hj
        rw [List.drop_succ_cons, List.drop_succ_cons]
        exact top_ins x l h2 j (by omega)
theorem rise_head {x : Nat} {l S : List Nat} (hS : S.Pairwise (· ≤ ·)) (hp : S.Perm (x :: l)) (hx : ∀ y ∈ l, x ≤ y) : ∃ S', S = x :: S' ∧ S'.Perm l ∧ S'.Pairwise (· ≤ ·) := by
  cases S with
  | nil => exact absurd hp.symm.eq_nil (List.cons_ne_nil _ _)
  | cons s S' =>
    obtain ⟨h1, h2⟩ := List.pairwise_cons.1 hS
    have e : s = x := by
      have a1 : s ∈ x :: l := hp.mem_iff.1 (List.mem_cons_self ..)
      have a2 : x ∈ s :: S' := hp.mem_iff.2 (List.mem_cons_self ..)
      have b1 : x ≤ s := by
        rcases List.mem_cons.1 a1 with e | e
        · omega
        · exact hx s e
      have b2 : s ≤ x := by
        rcases List.mem_cons.1 a2 with e | e
        · omega
        · exact h1 x e
      omega
    subst e
    exact ⟨S', rfl, (List.perm_cons s).1 hp, h2⟩
/-- what all bytes of a list cost -/
def cst (f d : Nat → Nat) (L : List UInt8) : Nat := (L.map fun c => f c.toNat * d c.toNat).sum
def wgt (f : Nat → Nat) (L : List UInt8) : Nat := (L.map fun c => f c.toNat).sum
theorem cst_append (f d : Nat → Nat) (a b : List UInt8) : cst f d (a ++ b) = cst f d a + cst f d b := by unfold cst; rw [List.map_append, List.sum_append]
theorem wgt_append (f : Nat → Nat) (a b : List UInt8) : wgt f (a ++ b) = wgt f a + wgt f b := by unfold wgt; rw [List.map_append, List.sum_append]
theorem cst_perm {f d : Nat → Nat} {a b : List UInt8} (h : a.Perm b) : cst f d a = cst f d b := (h.map _).sum_nat
theorem cst_one (f d e : Nat → Nat) : ∀ (L : List UInt8), (∀ c ∈ L, e c.toNat = d c.toNat + 1) → cst f e L = cst f d L + wgt f L
  | [], _ => rfl
  | c :: L, h => by
    have ih := cst_one f d e L (fun x hx => h x (List.mem_cons_of_mem _ hx))
    unfold cst wgt at *
    rw [List.map_cons, List.sum_cons, List.map_cons, List.sum_cons, List.map_cons, List.sum_cons, ih, h c (List.mem_cons_self ..), Nat.mul_succ]
    omega
theorem cst_same (f d e : Nat → Nat) (L : List UInt8) (h : ∀ c ∈ L, e c.toNat = d c.toNat) : cst f e L = cst f d L := by
  unfold cst; rw [List.map_congr_left (fun c hc => by rw [h c hc])]
/-- the cost, and what is yet to come, is no more than eight bits a byte -/
structure QC (f : Nat → Nat) (L0 : List UInt8) (N : Nat) (F : List Tr) (d : Nat → Nat) : Prop where
  weight : ∀ T ∈ F, T.1 = wgt f T.2.2
  cost : ∃ S : List Nat, S.Pairwise (· ≤ ·) ∧ S.Perm (F.map (·.1)) ∧ ∀ k, F.length ≤ 2 ^ k → (k = 0 ∨ 2 ^ (k - 1) < F.length) → cst f d L0 + k * N ≤ 8 * N + (S.drop (S.length - (2 ^ k - F.length))).sum
theorem QC.perm {f : Nat → Nat} {L0 : List UInt8} {N : Nat} {F G : List Tr} {d : Nat → Nat} (hp : F.Perm G) (h : QC f L0 N F d) : QC f L0 N G d := by
  refine ⟨fun T hT => h.weight T (hp.mem_iff.2 hT), ?_⟩
  obtain ⟨S, h1, h2, h3⟩ := h.cost
  exact ⟨S, h1, h2.trans (hp.map _), fun k => by rw [← hp.length_eq]; exact h3 k⟩
theorem QC.step {f : Nat → Nat} {L0 : List UInt8} (h0 : L0.Nodup) {N : Nat} (hN : N < 18446744073709551616) {x0 x1 : Tr} {rest : List Tr} {d : Nat → Nat} (n : Nat)
    (l0 : ∀ y ∈ x1 :: rest, tle x0 y) (l1 : ∀ y ∈ rest, tle x1 y) (hk : QK L0 (x0 :: x1 :: rest) d) (hf : QF N (x0 :: x1 :: rest) d) (h : QC f L0 N (x0 :: x1 :: rest) d) :
    QC f L0 N ((sumW x0.1 x1.1, n, x0.2.2 ++ x1.2.2) :: rest) (fun i => d i + cntF (x0.2.2 ++ x1.2.2) i) := by
  have ht := hf.total
  rw [List.map_cons, List.map_cons, List.sum_cons, List.sum_cons] at ht
  have hsw : sumW x0.1 x1.1 = x0.1 + x1.1 := by unfold sumW; rw [if_pos (by omega)]
  have hb := hk.bytes
  rw [List.flatMap_cons, List.flatMap_cons, ← List.append_assoc] at hb
  have hnd := hb.nodup_iff.2 h0
  obtain ⟨n1, n2, n3⟩ := List.nodup_append.1 hnd
  have hone : ∀ c ∈ x0.2.2 ++ x1.2.2, cntF (x0.2.2 ++ x1.2.2) c.toNat = 1 := fun c hc => cntF_one n1 hc
  have hoff : ∀ c ∈ rest.flatMap (·.2.2), cntF (x0.2.2 ++ x1.2.2) c.toNat = 0 := fun c hc => cntF_none (fun c2 hc2 e => n3 c2 hc2 c hc (UInt8.toNat_inj.1 e))
  have w0 := h.weight x0 (by simp)
  have w1 := h.weight x1 (by simp)
  have hcst : cst f (fun i => d i + cntF (x0.2.2 ++ x1.2.2) i) L0 = cst f d L0 + (x0.1 + x1.1) := by
    have g1 := cst_one f d (fun i => d i + cntF (x0.2.2 ++ x1.2.2) i) (x0.2.2 ++ x1.2.2) (fun c hc => by show d c.toNat + _ = _; rw [hone c hc])
    have g2 := cst_same f d (fun i => d i + cntF (x0.2.2 ++ x1.2.2) i) (rest.flatMap (·.2.2)) (fun c hc => by show d c.toNat + _ = _; rw [hoff c hc]; rfl)
    rw [wgt_append, ← w0, ← w1] at g1
    have g3 := cst_perm (f := f) (d := fun i => d i + cntF (x0.2.2 ++ x1.2.2) i) hb
    have g4 := cst_perm (f := f) (d := d) hb
    rw [cst_append] at g3 g4
    omega
  refine ⟨fun T hT => ?_, ?_⟩
  · rcases List.mem_cons.1 hT with rfl | hT
    · show sumW x0.1 x1.1 = wgt f (x0.2.2 ++ x1.2.2)
      rw [hsw, wgt_append, w0, w1]
    · exact h.weight T (by simp [hT])
  · obtain ⟨S, s1, s2, s3⟩ := h.cost
    rw [List.map_cons, List.map_cons] at s2
    obtain ⟨S1, rfl, p1, r1⟩ := rise_head s1 s2 (fun y hy => by
      rcases List.mem_cons.1 hy with rfl | hy
      · exact tle_weight (l0 x1 (by simp))
      · obtain ⟨T, hT, rfl⟩ := List.mem_map.1 hy
        exact tle_weight (l0 T (by simp [hT])))
    obtain ⟨S2, rfl, p2, r2⟩ := rise_head r1 p1 (fun y hy => by
      obtain ⟨T, hT, rfl⟩ := List.mem_map.1 hy
      exact tle_weight (l1 T hT))
    have hlen : S2.length = rest.length := by rw [p2.length_eq, List.length_map]
    have hsum : S2.sum = (rest.map (·.1)).sum := p2.sum_nat
    refine ⟨ins (x0.1 + x1.1) S2, ins_rise _ _ r2, ?_, fun k hk1 hk2 => ?_⟩
    · rw [List.map_cons, hsw]
      exact (ins_perm _ _).trans (p2.cons _)
    · have hil : (ins (x0.1 + x1.1) S2).length = S2.length + 1 := by rw [(ins_perm _ _).length_eq, List.length_cons]
      rw [hcst, hil]
      rw [List.length_cons] at hk1 hk2 ⊢
      simp only [List.length_cons] at s3
      by_cases hc : rest.length + 1 = 2 ^ k
      · -- all of one length: a bit less each
        have hp : 2 ^ (k + 1) = 2 ^ k + 2 ^ k := by rw [Nat.pow_succ]; omega
        have h4 := s3 (k + 1) (by omega) (.inr (by rw [Nat.add_sub_cancel]; omega))
        have e1 : S2.length + 1 + 1 - (2 ^ (k + 1) - (rest.length + 1 + 1)) = 2 := by omega
        have e2 : S2.length + 1 - (2 ^ k - (rest.length + 1)) = S2.length + 1 := by omega
        rw [e1, List.drop_succ_cons, List.drop_succ_cons, List.drop_zero, hsum, Nat.succ_mul] at h4
        rw [e2]
        have : ((ins (x0.1 + x1.1) S2).drop (S2.length + 1)).sum = 0 := by rw [List.drop_of_length_le (by omega)]; rfl
        omega
      · have h4 := s3 k (by omega) (by
          rcases hk2 with h | h
          · exact .inl h
          · exact .inr (by omega))
        have hr : 2 ^ k - (rest.length + 1) = (2 ^ k - (rest.length + 1 + 1)) + 1 := by omega
        obtain ⟨r, hr2⟩ : ∃ r, 2 ^ k - (rest.length + 1 + 1) = r := ⟨_, rfl⟩
        rw [hr2] at h4 hr
        rw [hr]
        have hrl : r ≤ S2.length := by
          rcases hk2 with h | h
          · rw [h, Nat.pow_zero] at hk1 hc; omega
          · have hp : 2 ^ k = 2 ^ (k - 1) + 2 ^ (k - 1) := by
              rcases Nat.eq_zero_or_pos k with h0 | h0
              · rw [h0, Nat.pow_zero] at hk1 hc; omega
              · rw [show k = k - 1 + 1 by omega, Nat.pow_succ, Nat.add_sub_cancel]; omega
            omega
        have h5 := top_ins (x0.1 + x1.1) S2 r2 (S2.length - r) (by omega)
        have e1 : S2.length + 1 + 1 - r = (S2.length - r) + 1 + 1 := by omega
        have e2 : S2.length + 1 - (r + 1) = S2.length - r := by omega
        rw [e1, List.drop_succ_cons, List.drop_succ_cons] at h4
        rw [e2]
        omega
end Go.Proofs.YtjdglpngcdcneaaGreat

/- Layer 7: what the lengths are: plain. -/
namespace Go.Proofs.YtjdglpngcdcneaaGreat
open Go.RowKit
set_option linter.unusedVariables false
set_option linter.unusedSimpArgs false
set_option linter.unusedSectionVars false
/-- the bytes that are there, in their order -/
def leavesB (f : Nat → Nat) : Nat → List UInt8
  | 0 => []
  | i + 1 => if 0 < f i then leavesB f i ++ [UInt8.ofNat i] else leavesB f i
def sumF (f : Nat → Nat) : Nat → Nat
  | 0 => 0
  | i + 1 => sumF f i + f i
theorem ofNat_lt {i : Nat} (h : i < 256) : (UInt8.ofNat i).toNat = i := by simp; omega
theorem leavesB_mem (f : Nat → Nat) : ∀ i, i ≤ 256 → ∀ c : UInt8, c ∈ leavesB f i ↔ c.toNat < i ∧ 0 < f c.toNat
  | 0, _, c => ⟨fun h => (List.not_mem_nil h).elim, fun h => by omega⟩
  | i + 1, hi, c => by
    have ih := leavesB_mem f i (by omega) c
    rw [leavesB]
    by_cases h0 : 0 < f i
    · rw [if_pos h0, List.mem_append, ih, List.mem_singleton]
      constructor
      · rintro (⟨h1, h2⟩ | rfl)
        · exact ⟨by omega, h2⟩
        · rw [ofNat_lt (by omega)]; exact ⟨by omega, h0⟩
      · rintro ⟨h1, h2⟩
        by_cases e : c.toNat = i
        · right; rw [← e]; simp
        · left; exact ⟨by omega, h2⟩
    · rw [if_neg h0, ih]
      constructor
      · rintro ⟨h1, h2⟩; exact ⟨by omega, h2⟩
      · rintro ⟨h1, h2⟩
        by_cases e : c.toNat = i
        · rw [e] at h2; exact absurd h2 h0
        · exact ⟨by omega, h2⟩
theorem leavesB_nodup (f : Nat → Nat) : ∀ i, i ≤ 256 → (leavesB f i).Nodup
  | 0, _ => List.nodup_nil
  | i + 1, hi => by
    have ih := leavesB_nodup f i (by omega)
    rw [leavesB]
    split
    · rw [List.nodup_append]
      refine ⟨ih, by simp, fun a ha b hb e => ?_⟩
      rw [List.mem_singleton] at hb
      subst hb e
      have := ((leavesB_mem f i (by omega) _).1 ha).1
      rw [ofNat_lt (by omega)] at this
      omega
    · exact ih
theorem leavesB_len (f : Nat → Nat) : ∀ i, (leavesB f i).length ≤ i
  | 0 => Nat.le_refl _
  | i + 1 => by
    have := leavesB_len f i
    rw [leavesB]
    split
    · rw [List.length_append, List.length_singleton]; omega
    · omega
theorem leaf_forest (f : Nat → Nat) (hf : ∀ i, f i < 18446744073709551616) : ∀ i,
    (forest (leafS f i)).flatMap (·.2.2) = leavesB f i ∧ ((forest (leafS f i)).map (·.1)).sum = sumF f i ∧ (forest (leafS f i)).length = (leavesB f i).length ∧ ∀ T ∈ forest (leafS f i), ∃ j, j < i ∧ T.2.2 = [UInt8.ofNat j] ∧ T.1 = f j ∧ 0 < f j
  | 0 => ⟨rfl, rfl, rfl, fun T hT => (List.not_mem_nil hT).elim⟩
  | i + 1 => by
    obtain ⟨h1, h2, h3, h4⟩ := leaf_forest f hf i
    obtain ⟨g1, g2, g3, g4⟩ := leafS_ok f hf i
    rw [leavesB, sumF, leafS]
    by_cases h0 : 0 < f i
    · rw [if_pos h0, if_pos h0]
      have e : forest ⟨(leafS f i).l ++ [(f i, (leafS f i).n)], (leafS f i).n + 1, updA (leafS f i).ls (leafS f i).n [UInt8.ofNat i], fun _ => 0⟩ = forest (leafS f i) ++ [(f i, (leafS f i).n, [UInt8.ofNat i])] := by
        unfold forest
        rw [List.map_append]
        congr 1
        · refine List.map_congr_left (fun x hx => ?_)
          show (x.1, x.2, updA (leafS f i).ls (leafS f i).n [UInt8.ofNat i] x.2) = _
          rw [updA_ne _ _ (by have := (g3 x hx).1; omega)]; rfl
        · show [(_, _, updA (leafS f i).ls (leafS f i).n [UInt8.ofNat i] (leafS f i).n)] = _
          rw [updA_self]
      rw [e]
      refine ⟨by rw [List.flatMap_append, h1]; rfl, by rw [List.map_append, List.sum_append, h2]; simp, by rw [List.length_append, List.length_append, h3]; rfl, fun T hT => ?_⟩
      rcases List.mem_append.1 hT with hT | hT
      · obtain ⟨j, a, b⟩ := h4 T hT; exact ⟨j, by omega, b⟩
      · rw [List.mem_singleton] at hT; subst hT; exact ⟨i, by omega, rfl, rfl, h0⟩
    · rw [if_neg h0, if_neg h0]
      refine ⟨h1, by rw [h2]; omega, h3, fun T hT => ?_⟩
      obtain ⟨j, a, b⟩ := h4 T hT; exact ⟨j, by omega, b⟩
/-- the trees' depths -/
structure Deep (f : Nat → Nat) (d : Nat → Nat) : Prop where
  len : lenT f = fun i => d i % 256
  off : ∀ i, (∀ c ∈ leavesB f 256, c.toNat ≠ i) → d i = 0
  room : krf d (leavesB f 256) = 2 ^ 255
  on : ∀ c ∈ leavesB f 256, 1 ≤ d c.toNat ∧ d c.toNat ≤ 255
  few : sumF f 256 < 18446744073709551616 → (∃ h, (∀ c ∈ leavesB f 256, d c.toNat ≤ h) ∧ fib (h + 2) ≤ sumF f 256) ∧ cst f d (leavesB f 256) ≤ 8 * sumF f 256
theorem krf_perm {d : Nat → Nat} {a b : List UInt8} (h : a.Perm b) : krf d a = krf d b := (h.map _).sum_nat
theorem krf_mem (d : Nat → Nat) : ∀ {a : List UInt8} {c : UInt8}, c ∈ a → 2 ^ (255 - d c.toNat) ≤ krf d a
  | x :: r, c, h => by
    unfold krf
    rw [List.map_cons, List.sum_cons]
    rcases List.mem_cons.1 h with rfl | h
    · exact Nat.le_add_right _ _
    · have := krf_mem d h
      unfold krf at this
      exact Nat.le_trans this (Nat.le_add_left _ _)
theorem krf_unit (c : UInt8) : krf (fun _ => 0) [c] = 2 ^ 255 := by
  unfold krf
  rw [List.map_singleton, List.sum_singleton, Nat.sub_zero]
theorem krf_two {d : Nat → Nat} {a : List UInt8} (hn : a.Nodup) (h2 : 2 ≤ a.length) (hk : krf d a = 2 ^ 255) {c : UInt8} (hc : c ∈ a) : 1 ≤ d c.toNat := by
  rcases Nat.lt_or_ge (d c.toNat) 1 with h | h
  · have e : d c.toNat = 0 := by omega
    have hp := List.perm_cons_erase hc
    have h3 := krf_perm (d := d) hp
    have h4 : (a.erase c).length = a.length - 1 := List.length_erase_of_mem hc
    rw [hk] at h3
    have h5 : krf d (c :: a.erase c) = 2 ^ (255 - d c.toNat) + krf d (a.erase c) := rfl
    rw [h5, e, Nat.sub_zero] at h3
    cases h6 : a.erase c with
    | nil => rw [h6] at h4; simp at h4; omega
    | cons x r =>
      have := krf_mem d (a := a.erase c) (c := x) (by rw [h6]; simp)
      have := Nat.two_pow_pos (255 - d x.toNat)
      omega
  · exact h
theorem rise_of : ∀ (l : List Nat), ∃ S : List Nat, S.Pairwise (· ≤ ·) ∧ S.Perm l
  | [] => ⟨[], List.Pairwise.nil, List.Perm.refl _⟩
  | x :: l => by
    obtain ⟨S, h1, h2⟩ := rise_of l
    exact ⟨ins x S, ins_rise x S h1, (ins_perm x S).trans (h2.cons x)⟩
theorem cst_zero (f : Nat → Nat) : ∀ L, cst f (fun _ => 0) L = 0
  | [] => rfl
  | c :: L => by
    have := cst_zero f L
    unfold cst at *
    rw [List.map_cons, List.sum_cons, this, Nat.mul_zero]
theorem deep_of (f : Nat → Nat) (hf : ∀ i, f i < 18446744073709551616) (n : Nat) (hn : n = 256) (h2 : 2 ≤ (leavesB f n).length) :
    ∃ d, lenS (leafS f n) = (fun i => d i % 256) ∧ (∀ i, (∀ c ∈ leavesB f n, c.toNat ≠ i) → d i = 0) ∧ krf d (leavesB f n) = 2 ^ 255 ∧ (∀ c ∈ leavesB f n, 1 ≤ d c.toNat ∧ d c.toNat ≤ 255) ∧
      (sumF f n < 18446744073709551616 → (∃ h, (∀ c ∈ leavesB f n, d c.toNat ≤ h) ∧ fib (h + 2) ≤ sumF f n) ∧ cst f d (leavesB f n) ≤ 8 * sumF f n) := by
  have hnd := leavesB_nodup f n (by omega)
  have hll := leavesB_len f n
  obtain ⟨a1, a2, a3, a4⟩ := leaf_forest f hf n
  obtain ⟨g1, g2, g3, g4⟩ := leafS_ok f hf n
  have hok := start_ok f hf n (by omega)
  have hhp := heap_start f n g1
  have hfl : (forest (leafS f n)).length = (leafS f n).l.length := by unfold forest; rw [List.length_map]
  have hpf : (forest (heapS (leafS f n))).Perm (forest (leafS f n)) := (hinit_perm _ _).map _
  generalize leafS f n = s0 at *
  have hl1 : s0.l.length ≠ 1 := by omega
  generalize leavesB f n = L0 at *
  have hz : ∀ i, (fun _ : Nat => 0) i = 0 := fun _ => rfl
  have q0 : QK L0 (forest (heapS s0)) (fun _ => 0) := QK.perm hpf.symm ⟨by rw [a1], fun i _ => rfl, fun T hT => by
      obtain ⟨j, _, e, _⟩ := a4 T hT
      rw [e]; exact krf_unit _, fun T hT c hc => by
      obtain ⟨j, _, e, _⟩ := a4 T hT
      rw [e]; simp⟩
  have q1 : QF (sumF f n) (forest (heapS s0)) (fun _ => 0) := QF.perm hpf.symm ⟨a2, fun T hT => ⟨0, fun c hc => Nat.le_refl _, by
      obtain ⟨j, _, _, e, h⟩ := a4 T hT
      rw [e]; show 1 ≤ f j; omega, fun U hU => by
      obtain ⟨j, _, _, e, h⟩ := a4 U hU
      rw [e]; show 1 ≤ f j; omega⟩⟩
  have q2 : QC f L0 (sumF f n) (forest (heapS s0)) (fun _ => 0) := QC.perm hpf.symm ⟨fun T hT => by
      obtain ⟨j, hj, e1, e2, _⟩ := a4 T hT
      rw [e1, e2]
      show f j = f (UInt8.ofNat j).toNat + 0
      rw [ofNat_lt (by omega)]; rfl, by
    obtain ⟨S, hS1, hS2⟩ := rise_of ((forest s0).map (·.1))
    refine ⟨S, hS1, hS2, fun k hk1 hk2 => ?_⟩
    have hz0 : cst f (fun _ => 0) L0 = 0 := cst_zero f L0
    have hk8 : k ≤ 8 := by
      rcases hk2 with h | h
      · omega
      · rcases Nat.lt_or_ge k 9 with h9 | h9
        · omega
        · have h10 : 2 ^ 8 ≤ 2 ^ (k - 1) := Nat.pow_le_pow_right (by omega) (by omega)
          have h11 : (2 : Nat) ^ 8 = 256 := rfl
          omega
    have := Nat.mul_le_mul_right (sumF f n) hk8
    rw [hz0]; omega⟩
  obtain ⟨m, ⟨r1, r2, r3⟩, r4⟩ := rounds_keep (fun F m d => QK L0 F d ∧ (sumF f n < 18446744073709551616 → QF (sumF f n) F d ∧ QC f L0 (sumF f n) F d) ∧ F ≠ [])
    (fun F G m d hp h => ⟨h.1.perm hp, fun hN => ⟨(h.2.1 hN).1.perm hp, (h.2.1 hN).2.perm hp⟩, fun e => h.2.2 (by rw [e] at hp; exact hp.eq_nil)⟩)
    (fun x0 x1 rest m d l0 l1 h => ⟨QK.step hnd (by omega) _ _ h.1, fun hN => ⟨QF.step hnd hN m l0 l1 h.1 (h.2.1 hN).1, QC.step hnd hN m l0 l1 h.1 (h.2.1 hN).1 (h.2.1 hN).2⟩, List.cons_ne_nil _ _⟩)
    (heapS s0).l.length (heapS s0) (fun _ => 0) (by omega) hok hhp ⟨q0, fun _ => ⟨q1, q2⟩, fun e => by
      have := hpf.length_eq
      rw [e] at this
      simp at this
      omega⟩
  obtain ⟨d, hd⟩ : ∃ d, depS (heapS s0).l.length (heapS s0) (fun _ => 0) = d := ⟨_, rfl⟩
  rw [hd] at r1 r2
  have hlen : lenS s0 = fun i => d i % 256 := by
    unfold lenS
    rw [if_neg hl1, rounds_dep _ _ (fun _ => 0) (by funext i; rfl), hd]
  generalize roundsS (heapS s0).l.length (heapS s0) = s9 at *
  have r5 : (forest s9).length ≤ 1 := by unfold forest; rw [List.length_map]; exact r4
  obtain ⟨T, hT⟩ : ∃ T, forest s9 = [T] := by
    rcases hF : forest s9 with _ | ⟨T, _ | ⟨U, r⟩⟩
    · exact absurd hF r3
    · exact ⟨T, rfl⟩
    · rw [hF, List.length_cons, List.length_cons] at r5; omega
  rw [hT] at r1 r2
  have hbt := r1.bytes
  rw [List.flatMap_singleton] at hbt
  have hroom := r1.room T (by simp)
  rw [krf_perm hbt] at hroom
  have htl := hbt.length_eq
  refine ⟨d, hlen, r1.off, hroom, fun c hc => ⟨krf_two hnd h2 hroom hc, ?_⟩, fun hN => ?_⟩
  · have := r1.deep T (by simp) c (hbt.mem_iff.2 hc)
    omega
  · obtain ⟨k, b1, b2, _⟩ := (r2 hN).1.deep T (by simp)
    have ht := (r2 hN).1.total
    rw [List.map_singleton, List.sum_singleton] at ht
    obtain ⟨S, _, s2, s3⟩ := (r2 hN).2.cost
    have hsl := s2.length_eq
    rw [List.map_singleton, List.length_singleton] at hsl
    have h9 := s3 0 (by rw [List.length_singleton]; exact Nat.le_refl _) (.inl rfl)
    rw [hsl, List.length_singleton, Nat.pow_zero, Nat.sub_self, Nat.sub_zero, List.drop_of_length_le (by omega)] at h9
    exact ⟨⟨k, fun c hc => b1 c (hbt.mem_iff.2 hc), by omega⟩, by simpa using h9⟩
theorem deep (f : Nat → Nat) (hf : ∀ i, f i < 18446744073709551616) (h2 : 2 ≤ (leavesB f 256).length) : ∃ d, Deep f d := by
  obtain ⟨d, h1, h3, h4, h5, h6⟩ := deep_of f hf 256 rfl h2
  exact ⟨d, h1, h3, h4, h5, h6⟩
end Go.Proofs.YtjdglpngcdcneaaGreat

/- Layer 7: the lengths may be used: plain. -/
namespace Go.Proofs.YtjdglpngcdcneaaGreat
open Go.RowKit
set_option linter.unusedVariables false
set_option linter.unusedSimpArgs false
set_option linter.unusedSectionVars false
theorem leaves_len (f : Nat → Nat) (hf : ∀ i, f i < 18446744073709551616) (n : Nat) : (leafS f n).l.length = (leavesB f n).length := by
  have := (leaf_forest f hf n).2.2.1
  unfold forest at this
  rw [List.length_map] at this
  exact this
theorem lenS_zero (f : Nat → Nat) (hf : ∀ i, f i < 18446744073709551616) (n : Nat) (h : leavesB f n = []) : lenS (leafS f n) = fun _ => 0 := by
  have h1 := leaves_len f hf n
  rw [h, List.length_nil] at h1
  unfold lenS
  rw [if_neg (by omega)]
  have h2 : (heapS (leafS f n)).l.length = 0 := by show (hinit _ _).length = 0; rw [hinit_len]; exact h1
  rw [h2]; rfl
theorem lenS_one (f : Nat → Nat) (hf : ∀ i, f i < 18446744073709551616) (n : Nat) (c : UInt8) (h : leavesB f n = [c]) : lenS (leafS f n) = upd (fun _ => 0) c.toNat 1 := by
  have h1 := leaves_len f hf n
  obtain ⟨a1, a2, a3, a4⟩ := leaf_forest f hf n
  obtain ⟨g1, g2, g3, g4⟩ := leafS_ok f hf n
  rw [h, List.length_singleton] at h1
  unfold lenS
  rw [if_pos h1]
  obtain ⟨x, hx⟩ := List.length_eq_one_iff.1 h1
  have hx2 := (g3 x (by rw [hx]; simp)).1
  have e0 : x.2 = 0 := by omega
  have e : (forest (leafS f n)).flatMap (·.2.2) = (leafS f n).ls 0 := by
    unfold forest
    rw [hx, List.map_singleton, List.flatMap_singleton]
    show (leafS f n).ls x.2 = _
    rw [e0]
  rw [← e, a1, h]; rfl
/-- three kinds of weights -/
theorem lens_cases (f : Nat → Nat) (hf : ∀ i, f i < 18446744073709551616) : (leavesB f 256 = [] ∧ lenT f = fun _ => 0) ∨ (∃ c, leavesB f 256 = [c] ∧ lenT f = upd (fun _ => 0) c.toNat 1) ∨ (2 ≤ (leavesB f 256).length ∧ ∃ d, Deep f d) := by
  have hT : lenT f = lenS (leafS f 256) := rfl
  have h0 := fun h => hT.trans (lenS_zero f hf 256 h)
  have h1 := fun c h => hT.trans (lenS_one f hf 256 c h)
  have h2 := deep f hf
  clear hT
  generalize lenT f = t at *
  generalize leavesB f 256 = L at *
  rcases L with _ | ⟨c, _ | ⟨d, r⟩⟩
  · exact .inl ⟨rfl, h0 rfl⟩
  · exact .inr (.inl ⟨c, rfl, h1 c rfl⟩)
  · exact .inr (.inr ⟨by rw [List.length_cons, List.length_cons]; omega, h2 (by rw [List.length_cons, List.length_cons]; omega)⟩)
theorem Deep.at_leaf {f d : Nat → Nat} (h : Deep f d) {i : Nat} (hi : i < 256) (h0 : 0 < f i) : lenT f i = d i ∧ 1 ≤ d i ∧ d i ≤ 255 := by
  have hm : UInt8.ofNat i ∈ leavesB f 256 := (leavesB_mem f 256 (Nat.le_refl _) _).2 (by rw [ofNat_lt hi]; exact ⟨hi, h0⟩)
  have := h.on _ hm
  rw [ofNat_lt hi] at this
  rw [h.len]
  refine ⟨Nat.mod_eq_of_lt (by omega), this⟩
theorem Deep.no_leaf {f d : Nat → Nat} (h : Deep f d) {i : Nat} (h0 : ¬ (i < 256 ∧ 0 < f i)) : lenT f i = 0 := by
  rw [h.len]
  show d i % 256 = 0
  rw [h.off i (fun c hc e => h0 (by rw [← e]; exact (leavesB_mem f 256 (Nat.le_refl _) _).1 hc))]
theorem lenT_zero_iff (f : Nat → Nat) (hf : ∀ i, f i < 18446744073709551616) {i : Nat} (hi : i < 256) : lenT f i = 0 ↔ f i = 0 := by
  rcases lens_cases f hf with ⟨h1, h2⟩ | ⟨c, h1, h2⟩ | ⟨_, d, hd⟩
  · refine ⟨fun _ => ?_, fun _ => by rw [h2]⟩
    rcases Nat.eq_zero_or_pos (f i) with h | h
    · exact h
    · have := (leavesB_mem f 256 (Nat.le_refl _) (UInt8.ofNat i)).2 (by rw [ofNat_lt hi]; exact ⟨hi, h⟩)
      rw [h1] at this; exact (List.not_mem_nil this).elim
  · have hc := (leavesB_mem f 256 (Nat.le_refl _) c).1 (by rw [h1]; simp)
    rw [h2]
    unfold upd
    by_cases e : i = c.toNat
    · rw [if_pos e, e]
      refine ⟨fun h => by omega, fun h => by omega⟩
    · rw [if_neg e]
      refine ⟨fun _ => ?_, fun _ => rfl⟩
      rcases Nat.eq_zero_or_pos (f i) with h | h
      · exact h
      · have := (leavesB_mem f 256 (Nat.le_refl _) (UInt8.ofNat i)).2 (by rw [ofNat_lt hi]; exact ⟨hi, h⟩)
        rw [h1, List.mem_singleton] at this
        rw [← this, ofNat_lt hi] at e
        exact absurd rfl e
  · rcases Nat.eq_zero_or_pos (f i) with h | h
    · exact ⟨fun _ => h, fun _ => hd.no_leaf (fun e => by omega)⟩
    · have := hd.at_leaf hi h
      exact ⟨fun e => by omega, fun e => by omega⟩
theorem fib_double (n : Nat) : 2 * fib n ≤ fib (n + 2) := by
  have := fib_mono n
  rw [fib]; omega
theorem fib_pow : ∀ k, 2 ^ k ≤ fib (2 * k + 1)
  | 0 => Nat.le_refl _
  | k + 1 => by
    have h1 := fib_pow k
    have h2 := fib_double (2 * k + 1)
    rw [show 2 * (k + 1) + 1 = 2 * k + 1 + 2 by omega, Nat.pow_succ]; omega
theorem fib_le {a b : Nat} (h : a ≤ b) : fib a ≤ fib b := by
  induction b with
  | zero => rw [Nat.le_zero.1 h]; exact Nat.le_refl _
  | succ b ih =>
    rcases Nat.lt_or_ge b a with h1 | h1
    · rw [show a = b + 1 by omega]; exact Nat.le_refl _
    · exact Nat.le_trans (ih h1) (fib_mono b)
theorem lenT_few (f : Nat → Nat) (hf : ∀ i, f i < 18446744073709551616) (hN : sumF f 256 < 134217728) : ∀ i, lenT f i ≤ 56 := fun i => by
  rcases lens_cases f hf with ⟨h1, h2⟩ | ⟨c, h1, h2⟩ | ⟨_, d, hd⟩
  · rw [h2]; exact Nat.zero_le _
  · rw [h2]; unfold upd; split
    · omega
    · exact Nat.zero_le _
  · by_cases hi : i < 256 ∧ 0 < f i
    · obtain ⟨h1, h2, h3⟩ := hd.at_leaf hi.1 hi.2
      obtain ⟨⟨k, h4, h5⟩, _⟩ := hd.few (by omega)
      have hm : UInt8.ofNat i ∈ leavesB f 256 := (leavesB_mem f 256 (Nat.le_refl _) _).2 (by rw [ofNat_lt hi.1]; exact hi)
      have h6 := h4 _ hm
      rw [ofNat_lt hi.1] at h6
      rcases Nat.lt_or_ge k 54 with h7 | h7
      · omega
      · have h8 := fib_le (show 2 * 27 + 1 ≤ k + 2 by omega)
        have h9 := fib_pow 27
        have e : (2 : Nat) ^ 27 = 134217728 := rfl
        omega
    · rw [hd.no_leaf hi]; exact Nat.zero_le _
theorem sumT_leaves (t d f : Nat → Nat) : ∀ n, n ≤ 256 → (∀ i, i < n → (0 < f i → t i = d i ∧ 1 ≤ d i) ∧ (¬ 0 < f i → t i = 0)) → sumT t n = ((leavesB f n).map fun c => 2 ^ (56 - d c.toNat)).sum
  | 0, _, _ => rfl
  | i + 1, hn, h => by
    have ih := sumT_leaves t d f i (by omega) (fun j hj => h j (by omega))
    obtain ⟨h1, h2⟩ := h i (by omega)
    rw [sumT, leavesB, ih]
    by_cases h0 : 0 < f i
    · obtain ⟨e1, e2⟩ := h1 h0
      rw [if_pos h0, if_pos (by omega), List.map_append, List.sum_append, List.map_singleton, List.sum_singleton, ofNat_lt (by omega), e1]
    · rw [if_neg h0, if_neg (by rw [h2 h0]; omega)]; rfl
theorem krf_scale (d : Nat → Nat) : ∀ (L : List UInt8), (∀ c ∈ L, d c.toNat ≤ 56) → krf d L = 2 ^ 199 * (L.map fun c => 2 ^ (56 - d c.toNat)).sum
  | [], _ => by simp [krf]
  | c :: r, h => by
    have ih := krf_scale d r (fun x hx => h x (List.mem_cons_of_mem _ hx))
    have hc := h c (List.mem_cons_self ..)
    unfold krf at *
    rw [List.map_cons, List.sum_cons, ih, List.map_cons, List.sum_cons, Nat.mul_add, ← Nat.pow_add, show 199 + (56 - d c.toNat) = 255 - d c.toNat by omega]
theorem sumT_upd (c : Nat) : ∀ n, sumT (upd (fun _ => 0) c 1) n = if c < n then 36028797018963968 else 0
  | 0 => by rw [if_neg (by omega)]; rfl
  | i + 1 => by
    rw [sumT, sumT_upd c i]
    by_cases e : i = c
    · subst e; rw [upd_self, if_neg (by omega), if_pos (by omega), if_pos (by omega)]
    · rw [upd_ne _ _ e, if_neg (show ¬ 0 < 0 by omega)]
      by_cases h : c < i
      · rw [if_pos h, if_pos (by omega)]
      · rw [if_neg h, if_neg (by omega)]
theorem cntT_upd (c : Nat) : ∀ n, cntT (upd (fun _ => 0) c 1) n = if c < n then 1 else 0
  | 0 => by rw [if_neg (by omega)]; rfl
  | i + 1 => by
    rw [cntT, cntT_upd c i]
    by_cases e : i = c
    · subst e; rw [upd_self, if_neg (by omega), if_pos (by omega), if_pos (by omega)]
    · rw [upd_ne _ _ e, if_neg (show ¬ 0 < 0 by omega)]
      by_cases h : c < i
      · rw [if_pos h, if_pos (by omega)]
      · rw [if_neg h, if_neg (by omega)]
theorem cntT_zero : ∀ n, cntT (fun _ => 0) n = 0
  | 0 => rfl
  | i + 1 => by rw [cntT, cntT_zero i, if_neg (by omega)]
theorem codE_lenT (f : Nat → Nat) (hf : ∀ i, f i < 18446744073709551616) (h56 : ∀ i, i < 256 → lenT f i ≤ 56) : codE (lenT f) = 0 := by
  have hg : greatT (lenT f) = false := by
    unfold greatT
    rw [List.any_eq_false]
    intro i hi
    have := h56 i (List.mem_range.1 hi)
    simpa using this
  unfold codE
  rw [hg, if_neg (by decide)]
  rcases lens_cases f hf with ⟨h1, h2⟩ | ⟨c, h1, h2⟩ | ⟨_, d, hd⟩
  · rw [h2, cntT_zero, if_neg (by omega)]
  · have := c.toNat_lt
    have e1 : cntT (upd (fun _ => 0) c.toNat 1) 256 = 1 := by rw [cntT_upd, if_pos (by omega)]
    have e2 : sumT (upd (fun _ => 0) c.toNat 1) 256 = 36028797018963968 := by rw [sumT_upd, if_pos (by omega)]
    rw [h2, e1, e2, if_neg (fun h => h.2.2 ⟨rfl, rfl⟩)]
  · have hs := sumT_leaves (lenT f) d f 256 (Nat.le_refl _) (fun i hi => ⟨fun h0 => ⟨(hd.at_leaf hi h0).1, (hd.at_leaf hi h0).2.1⟩, fun h0 => hd.no_leaf (fun e => h0 e.2)⟩)
    have hk := krf_scale d (leavesB f 256) (fun c hc => by
      obtain ⟨h1, h2⟩ := (leavesB_mem f 256 (Nat.le_refl _) c).1 hc
      have h3 := h56 c.toNat h1
      rw [(hd.at_leaf h1 h2).1] at h3
      exact h3)
    rw [hd.room] at hk
    rw [← hs] at hk
    have e : sumT (lenT f) 256 = 72057594037927936 := by
      have e1 : (2 : Nat) ^ 255 = 2 ^ 199 * 72057594037927936 := by rw [show (72057594037927936 : Nat) = 2 ^ 56 from rfl, ← Nat.pow_add]
      rw [e1] at hk
      exact (Nat.eq_of_mul_eq_mul_left (Nat.two_pow_pos _) hk).symm
    rw [if_neg (fun h => h.2.1 e)]
theorem sumF_cnt : ∀ (l : List UInt8) , ∀ n, n ≤ 256 → sumF (cntF l) n = l.countP (fun x => decide (x.toNat < n))
  | l, 0, _ => by
    rw [sumF]; symm; rw [List.countP_eq_zero]; simp
  | l, n + 1, h => by
    rw [sumF, sumF_cnt l n (by omega)]
    unfold cntF
    induction l with
    | nil => rfl
    | cons x r ih =>
      rw [List.countP_cons, List.countP_cons, List.countP_cons, ← ih]
      by_cases h1 : x.toNat < n
      · have h2 : x.toNat < n + 1 := by omega
        have h3 : ¬ x.toNat = n := by omega
        simp [h1, h2, h3]; omega
      · by_cases h3 : x.toNat = n
        · simp [h3]; omega
        · have h2 : ¬ x.toNat < n + 1 := by omega
          simp [h1, h2, h3]
theorem sumF_cnt_all (l : List UInt8) : sumF (cntF l) 256 = l.length := by
  rw [sumF_cnt l 256 (Nat.le_refl _), List.countP_eq_length]
  intro x _
  have := x.toNat_lt
  simpa using this
theorem cntF_small {l : List UInt8} (h : l.length < 18446744073709551616) : ∀ i, cntF l i < 18446744073709551616 := fun i => Nat.lt_of_le_of_lt (cntF_le l i) h
theorem lenT_text {l : List UInt8} (h : l.length < 134217728) : ∀ i, lenT (cntF l) i ≤ 56 :=
  lenT_few _ (cntF_small (by omega)) (by rw [sumF_cnt_all]; exact h)
theorem codE_text {l : List UInt8} (h : l.length < 134217728) : codE (lenT (cntF l)) = 0 :=
  codE_lenT _ (cntF_small (by omega)) (fun i _ => lenT_text h i)
end Go.Proofs.YtjdglpngcdcneaaGreat

/- Layer 7: huff.Unpack. -/
namespace Go.Proofs.YtjdglpngcdcneaaGreat
open Go.RowKit
set_option linter.unusedVariables false
set_option linter.unusedSimpArgs false
set_option linter.unusedSectionVars false
/-- what is unpacked; why not -/
def unpackP (l : List UInt8) (most : Int) : List UInt8 × Nat :=
  if most < 0 then ([], 1) else if (vrd l 0).2.1 ≠ 0 then ([], 3) else if most.toNat < (vrd l 0).1 then ([], 4) else
  match readP l (vrd l 0).2.2 (vrd l 0).1 with
  | none => ([], 3)
  | some t => if packP t = l then (t, 0) else ([], 3)
theorem decP_len (E : List Ent) (f : Nat → Bool) (N : Nat) : ∀ (m a : Nat) (acc t : List UInt8), decP E f N m a acc = some t → t.length = acc.length + m
  | 0, a, acc, t, h => by cases h; rfl
  | m + 1, a, acc, t, h => by
    rw [decP] at h
    split at h
    · cases h
    · have := decP_len E f N m _ _ t h
      rw [this, List.length_append, List.length_singleton]; omega
theorem readP_len {l : List UInt8} {a n : Nat} {t : List UInt8} (h : readP l a n = some t) : t.length = n ∧ n ≤ 8 * l.length := by
  unfold readP at h
  split at h
  · rename_i hc
    have := decP_len _ _ _ _ _ _ _ h
    rw [List.length_nil, Nat.zero_add] at this
    exact ⟨this, by omega⟩
  · cases h
set_option maxRecDepth 20000 in
set_option maxHeartbeats 2000000 in
theorem unpack_any (s : ByteArray) (hs : s.size ≤ 520000) (most : Int) (hm : -9223372036854775808 ≤ most ∧ most < 9223372036854775808) (w : World) :
    Calls Tryz.prog 27 #[.string s, .int .i64 most] w fun e w' => e = .returned (.tuple #[.string ⟨(unpackP s.data.toList most).1.toArray⟩, .int .i64 (unpackP s.data.toList most).2]) ∧ Ext w w' := by
  obtain ⟨R, hR⟩ : ∃ R, unpackP s.data.toList most = R := ⟨_, rfl⟩
  rw [hR]
  unfold unpackP at hR
  by_cases h0 : most < 0
  · rw [if_pos h0] at hR
    subst hR
    go_enter Tryz.func27, Tryz.ntmps27
    go_wp2_with fail
    go_ret2
    exact ⟨rfl, Mut.refl _ _⟩
  · rw [if_neg h0] at hR
    have esz : s.data.toList.length = s.size := by simp
    have hv := vrd_facts s.data.toList 0 (by omega)
    have HN := Lib.hid (new_st (St.start noB w) s)
    have HV := Lib.hid (fun w1 (h : St noB w w1 [rdT w.heap.size s 0]) => vread_st h (by omega) (Nat.zero_le _))
    obtain ⟨⟨n, k, a⟩, hk⟩ : ∃ v, vrd s.data.toList 0 = v := ⟨_, rfl⟩
    rw [hk] at hR hv HV
    simp only at hR hv HV
    have HRD := Lib.hid (fun w1 (h : St noB w w1 [rdT w.heap.size s a]) => read_st h (by omega) (by omega) n hv.1 _ rfl)
    obtain ⟨q, hq⟩ : ∃ q, readP s.data.toList a n = q := ⟨_, rfl⟩
    rw [hq] at hR HRD
    have hql := fun t (e : q = some t) => readP_len (hq.trans e)
    rw [esz] at hql hv
    have h0b : ¬ most < 0 := h0
    have hmw : IntKind.u64.wrap most = most := by rw [IntKind.wrap_u64]; omega
    have HRR := Lib.hid hR
    clear hR hk hq h0
    generalize w.heap.size = rb at *
    go_enter Tryz.func27, Tryz.ntmps27
    go_wp2_with fail
    refine HN.out.mono ?_
    rintro _ w1 ⟨rfl, h1⟩
    go_wp2_with fail
    refine (HV.out w1 h1).mono ?_
    rintro _ w2 ⟨rfl, h2⟩
    clear HN HV h1
    have HX := Lib.hid h2.ends
    by_cases hk0 : k = 0
    · subst hk0
      by_cases hmn : most < (n : Int)
      · have HR : Hid (R = ([], 4)) := Lib.hid (by rw [← HRR.out, if_neg (by omega), if_pos (by omega)])
        clear HRR HRD
        go_wp2_with fail
        go_ret2
        rw [HR.out]
        exact ⟨rfl, HX.out⟩
      · have hmn2 : ¬ most < (n : Int) := hmn
        cases q with
        | none =>
          have HR : Hid (R = ([], 3)) := Lib.hid (by rw [← HRR.out, if_neg (by omega), if_neg (by omega)])
          clear HRR
          go_wp2_with fail
          refine (HRD.out w2 h2).mono ?_
          rintro _ w3 ⟨rfl, h3⟩
          clear HRD
          have HX3 := Lib.hid h3.ends
          go_wp2_with fail
          go_ret2
          rw [HR.out]
          exact ⟨rfl, HX3.out⟩
        | some t =>
          obtain ⟨hl1, hl2⟩ := hql t rfl
          obtain ⟨ts, hts⟩ : ∃ ts : ByteArray, ts = ⟨t.toArray⟩ := ⟨_, rfl⟩
          have etl : ts.data.toList = t := by rw [hts]
          have etz : ts.size = t.length := by rw [hts]; rfl
          have HPk := Lib.hid (fun w => pack_any ts (by omega) (fun i => by rw [etl]; have := lenT_text (l := t) (by omega) i; omega) w)
          rw [etl] at HPk
          change Hid (∀ w1, St noB w w1 [rdT rb s a] → Calls Tryz.prog _ _ w1 fun e w' => e = .returned (.tuple #[.string ⟨t.toArray⟩, .bool true]) ∧ St noB w w' []) at HRD
          rw [← hts] at HRD
          obtain ⟨ps, hps⟩ : ∃ ps : ByteArray, ps = ⟨(packP t).toArray⟩ := ⟨_, rfl⟩
          rw [← hps] at HPk
          have HTS := Lib.hid hts
          have hpe : packP t = ps.data.toList := by rw [hps]
          clear hps hts etl
          by_cases hp : packP t = s.data.toList
          · have HR : Hid (R = (t, 0)) := Lib.hid (by rw [← HRR.out, if_neg (by omega), if_neg (by omega)]; simp only; rw [if_pos hp])
            have hcmp : (ps.toList == s.toList) = true := by
              rw [ByteArray.toList_eq, ByteArray.toList_eq, ← hpe, hp]; simp
            clear HRR hp hpe
            go_wp2_with fail
            refine (HRD.out w2 h2).mono ?_
            rintro _ w3 ⟨rfl, h3⟩
            clear HRD
            have HX3 := Lib.hid h3.ends
            go_wp2_with fail
            refine (HPk.out w3).mono ?_
            rintro _ w4 ⟨rfl, x4⟩
            go_wp2_with fail
            go_ret2
            rw [HR.out, HTS.out]
            exact ⟨rfl, HX3.out.trans x4⟩
          · have HR : Hid (R = ([], 3)) := Lib.hid (by rw [← HRR.out, if_neg (by omega), if_neg (by omega)]; simp only; rw [if_neg hp])
            have hcmp : (ps.toList == s.toList) = false := by
              rw [beq_eq_false_iff_ne, ByteArray.toList_eq, ByteArray.toList_eq, ← hpe]; exact hp
            clear HRR hp hpe
            go_wp2_with fail
            refine (HRD.out w2 h2).mono ?_
            rintro _ w3 ⟨rfl, h3⟩
            clear HRD
            have HX3 := Lib.hid h3.ends
            go_wp2_with fail
            refine (HPk.out w3).mono ?_
            rintro _ w4 ⟨rfl, x4⟩
            go_wp2_with fail
            go_ret2
            rw [HR.out]
            exact ⟨rfl, HX3.out.trans x4⟩
    · have hk2 : ¬ (k : Int) = 0 := by omega
      have HR : Hid (R = ([], 3)) := Lib.hid (by rw [← HRR.out, if_pos hk0])
      clear HRR HRD
      go_wp2_with fail
      go_ret2
      rw [HR.out]
      exact ⟨rfl, HX.out⟩
end Go.Proofs.YtjdglpngcdcneaaGreat

/- Layer 4: what is printed is read as it was: plain. -/
namespace Go.Proofs.YtjdglpngcdcneaaGreat
open Go.RowKit
set_option linter.unusedVariables false
set_option linter.unusedSimpArgs false
set_option linter.unusedSectionVars false
theorem rd2_at (X Y : List UInt8) (v d : Nat) (hv : v < 18446744073709551616) (hd : d < 18446744073709551616) (L : List UInt8) (hL : L = X ++ (vb v ++ vb d) ++ Y) :
    rd2 L X.length = (v, d, 0, X.length + (vb v ++ vb d).length) := by
  have h1 := vrd_vb X (vb d ++ Y) v hv
  have h2 := vrd_vb (X ++ vb v) Y d hd
  have e1 : X ++ vb v ++ (vb d ++ Y) = L := by rw [hL]; simp
  have e2 : X ++ vb v ++ vb d ++ Y = L := by rw [hL]; simp
  rw [e1] at h1
  rw [e2, List.length_append] at h2
  unfold rd2
  rw [h1, if_pos rfl]
  simp only
  rw [h2, List.length_append, Nat.add_assoc]
theorem okR_last (q : List Rn) (v c : Nat) (h : okR (q ++ [(v, c)])) : (expand q).getLast? ≠ some v := by
  have h2 := (okR_snoc q v c).1 h
  rcases List.eq_nil_or_concat q with rfl | ⟨q', ⟨u, d⟩, rfl⟩
  · simp [expand]
  · simp only [List.concat_eq_append] at h2 ⊢
    have hd := ((okR_snoc q' u d).1 h2.1).2.1
    obtain ⟨d, rfl⟩ : ∃ k, d = k + 1 := ⟨d - 1, by omega⟩
    rw [expand_snoc, List.replicate_succ', ← List.append_assoc, List.getLast?_concat]
    have := h2.2.2 (u, d + 1) (by rw [List.getLast?_concat])
    simpa using this
theorem okR_prefix : ∀ (q p : List Rn), okR (q ++ p) → okR q
  | [], _, _ => trivial
  | [r], [], h => h
  | [r], s :: p, h => ⟨h.1, by simp, trivial⟩
  | r :: t :: q, p, h => ⟨h.1, by simpa using h.2.1, okR_prefix (t :: q) p h.2.2⟩
theorem rls_rbs (more H : List UInt8) (P : List Rn) (hok : okR P) (hall : AllR P) (most : Nat) (hm : (expand P).length ≤ most) (L : List UInt8) (hL : L = H ++ rbs P ++ more) :
    ∀ (k : Nat) (q p : List Rn), P = q ++ p → p.length = k → rls L most k (H.length + (rbs q).length) (expand q) = (expand P, 0, H.length + (rbs P).length)
  | 0, q, p, hP, hk => by
    obtain rfl : p = [] := List.eq_nil_of_length_eq_zero hk
    rw [List.append_nil] at hP
    subst hP
    rw [rls]
  | k + 1, q, p, hP, hk => by
    obtain ⟨⟨v, c⟩, p, rfl⟩ : ∃ n p', p = n :: p' := by
      cases p with
      | nil => simp at hk
      | cons n p' => exact ⟨n, p', rfl⟩
    have hP2 : P = (q ++ [(v, c)]) ++ p := by rw [hP]; simp
    have hg : P.getD q.length (0, 0) = (v, c) := by rw [hP]; simp
    have hql : q.length < P.length := by rw [hP]; simp
    have hb := hall q.length hql
    have hc1 := okR_count P hok q.length hql
    rw [hg] at hb hc1
    simp only at hb hc1
    obtain ⟨d, rfl⟩ : ∃ d, c = d + 1 := ⟨c - 1, by omega⟩
    have hrb : ∀ a b : List Rn, rbs (a ++ b) = rbs a ++ rbs b := fun a b => by simp [rbs]
    have hone : rbs [(v, d + 1)] = vb v ++ vb d := by simp [rbs]
    have h1 := rd2_at (H ++ rbs q) (rbs p ++ more) v d hb.1 (by omega) L (by rw [hL, hP2, hrb, hrb, hone]; simp)
    rw [List.length_append] at h1
    rw [rls, h1]
    have hokq : okR (q ++ [(v, d + 1)]) := okR_prefix _ p (by rw [← hP2]; exact hok)
    have hlen : (expand (q ++ [(v, d + 1)])).length ≤ most := by
      have : (expand P).length = (expand (q ++ [(v, d + 1)])).length + (expand p).length := by rw [hP2]; simp [expand]; omega
      omega
    rw [expand_len_snoc] at hlen
    simp only
    rw [if_pos trivial, if_neg (okR_last q v (d + 1) hokq), if_neg (by omega)]
    have := rls_rbs more H P hok hall most hm L hL k (q ++ [(v, d + 1)]) p hP2 (by simpa using hk)
    have hlq : (rbs q ++ (vb v ++ vb d)).length = (rbs q).length + (vb v ++ vb d).length := List.length_append
    rw [expand_snoc, hrb, hone, hlq, ← Nat.add_assoc] at this
    exact this
theorem rrl_rbl (H : List UInt8) (l : List Nat) (more : List UInt8) (ha : AllLt l) (hl : l.length ≤ 1000000) : rrl (H ++ rbl (pk l) ++ more) H.length l.length = (l, 0, H.length + (rbl (pk l)).length) := by
  have hpl : (pk l).length ≤ l.length := by
    have := len_le_expand (pk l) (ok_pk l)
    rwa [expand_pk] at this
  have h0 := vrd_vb H (rbs (pk l) ++ more) (pk l).length (by omega)
  have e0 : H ++ rbl (pk l) ++ more = H ++ vb (pk l).length ++ (rbs (pk l) ++ more) := by unfold rbl; simp only [List.append_assoc]
  rw [← e0] at h0
  have h1 := rls_rbs more (H ++ vb (pk l).length) (pk l) (ok_pk l) (allR_pk l ha hl) l.length (by rw [expand_pk]; exact Nat.le_refl _) (H ++ rbl (pk l) ++ more) (by rw [e0, List.append_assoc, List.append_assoc, List.append_assoc]) (pk l).length [] (pk l) rfl rfl
  rw [expand_pk, show rbs [] = [] from rfl, List.length_nil, Nat.add_zero, show expand [] = [] from rfl, List.length_append] at h1
  unfold rrl
  rw [if_neg (by omega), h0]
  simp only
  rw [if_pos trivial, Int.toNat_natCast, h1, rbl, List.length_append, Nat.add_assoc]
end Go.Proofs.YtjdglpngcdcneaaGreat

/- Layer 7: what is packed is unpacked as it was: plain. -/
namespace Go.Proofs.YtjdglpngcdcneaaGreat
open Go.RowKit
set_option linter.unusedVariables false
set_option linter.unusedSimpArgs false
set_option linter.unusedSectionVars false
theorem oneG_find {E : List Ent} {f : Nat → Bool} {N a m : Nat} (x : Ent) (hm : 0 < m) (hN : a + m ≤ N) (hno : ∀ k, 0 < k → k < m → findE E k (nm f a k) = none) (hx : findE E m (nm f a m) = some x) :
    ∀ (r k : Nat), k < m → m ≤ k + r → oneG E f N a r k = some (x.2.2, a + m)
  | 0, k, h1, h2 => by omega
  | r + 1, k, h1, h2 => by
    rw [oneG, if_neg (by omega)]
    by_cases e : k + 1 = m
    · rw [e, hx]
      show some (x.2.2, a + k + 1) = _
      rw [← e, Nat.add_assoc]
    · rw [hno (k + 1) (by omega) (by omega)]
      exact oneG_find x hm hN hno hx r (k + 1) (by omega) (by omega)
theorem findE_some {E : List Ent} {k c : Nat} {x : Ent} (hx : x ∈ E) (h1 : k = x.1) (h2 : c = x.2.1) (hu : ∀ y ∈ E, k = y.1 → c = y.2.1 → y = x) : findE E k c = some x := by
  cases h : findE E k c with
  | none => exact absurd ⟨h1, h2⟩ (findE_none.1 h x hx)
  | some y =>
    have hy := List.mem_of_find?_eq_some h
    have hp := List.find?_some h
    simp only [decide_eq_true_eq] at hp
    rw [hu y hy hp.1 hp.2]
theorem nm_code {f : Nat → Bool} {a n c : Nat} (h : ∀ j, j < c → f (a + j) = n.testBit (c - 1 - j)) {k : Nat} (hk : k ≤ c) (hn : n < 2 ^ c) : nm f a k = n / 2 ^ (c - k) := by
  rw [nm_shift (g := fun j => n.testBit (c - 1 - j)) (b := 0) (fun i hi => by rw [Nat.zero_add]; exact h i (by omega)), nm_testBit n c k hk]
  refine Nat.mod_eq_of_lt ?_
  rw [Nat.div_lt_iff_lt_mul (Nat.two_pow_pos _), ← Nat.pow_add, show k + (c - k) = c by omega]
  exact hn
/-- the code of a byte is found -/
theorem oneP_code {t : Nat → Nat} (ht : codE t = 0) {f : Nat → Bool} {N a x : Nat} (hx : x < 256) (h0 : 0 < t x) (hf : ∀ j, j < t x → f (a + j) = (codT t x).testBit (t x - 1 - j)) (hN : a + t x ≤ N) :
    oneP (bookL t (codT t) 256) f N a = some (x, a + t x) := by
  have h56 := (codE_zero ht).1 x hx
  have hb := codT_bits ht hx h0
  have hmem : (t x, codT t x, x) ∈ bookL t (codT t) 256 := (bookL_mem t (codT t) 256 _).2 ⟨x, hx, h0, rfl⟩
  refine oneG_find (m := t x) (t x, codT t x, x) h0 hN (fun k h1 h2 => ?_) ?_ 56 0 h0 (by omega)
  · rw [nm_code hf (by omega) hb]
    refine findE_none.2 (fun y hy he => ?_)
    obtain ⟨j, hj, hj0, rfl⟩ := (bookL_mem t (codT t) 256 y).1 hy
    obtain ⟨e1, e2⟩ := he
    simp only at e1 e2
    have hne : j ≠ x := fun e => by subst e; omega
    have := codT_free ht hj hx hne hj0 (by omega)
    rw [← e1] at this
    exact this e2
  · have e : nm f a (t x) = codT t x := by rw [nm_code hf (Nat.le_refl _) hb, Nat.sub_self, Nat.pow_zero, Nat.div_one]
    rw [e]
    refine findE_some hmem rfl rfl (fun y hy e1 e2 => ?_)
    obtain ⟨j, hj, hj0, rfl⟩ := (bookL_mem t (codT t) 256 y).1 hy
    simp only at e1 e2
    have := apart_codT ht j x hj hx hj0 e1.symm e2.symm
    subst this; rfl
theorem decP_bits {t : Nat → Nat} (ht : codE t = 0) {f : Nat → Bool} {N : Nat} : ∀ (l : List UInt8) (a : Nat) (acc : List UInt8), (∀ x ∈ l, 0 < t x.toNat) → (∀ i, i < (bitsP t (codT t) l).length → f (a + i) = gd (bitsP t (codT t) l) i) → a + (bitsP t (codT t) l).length ≤ N →
    decP (bookL t (codT t) 256) f N l.length a acc = some (acc ++ l)
  | [], a, acc, _, _, _ => by rw [List.append_nil]; rfl
  | x :: l, a, acc, h0, hf, hN => by
    have hb : bitsP t (codT t) (x :: l) = bitsOf (codT t x.toNat) (t x.toNat) ++ bitsP t (codT t) l := by unfold bitsP; rw [List.flatMap_cons]
    rw [hb] at hf hN
    rw [List.length_append, bitsOf_len] at hf hN
    have hx := x.toNat_lt
    have h1 := oneP_code ht (f := f) (N := N) (a := a) (x := x.toNat) (by omega) (h0 x (List.mem_cons_self ..)) (fun j hj => by
      rw [hf j (by omega), gd_append_left _ _ _ (by rw [bitsOf_len]; exact hj), bitsOf_gd _ _ _ hj]) (by omega)
    rw [List.length_cons, decP, h1]
    show decP _ f N l.length (a + t x.toNat) (acc ++ [UInt8.ofNat x.toNat]) = _
    rw [decP_bits ht l (a + t x.toNat) _ (fun y hy => h0 y (List.mem_cons_of_mem _ hy)) (fun i hi => by
      have := hf (t x.toNat + i) (by omega)
      rw [← Nat.add_assoc] at this
      rw [this]
      have e := gd_append_right (bitsOf (codT t x.toNat) (t x.toNat)) (bitsP t (codT t) l) i
      rw [bitsOf_len] at e; exact e) (by omega)]
    simp
theorem bitsP_ge {t c : Nat → Nat} : ∀ (l : List UInt8), (∀ x ∈ l, 0 < t x.toNat) → l.length ≤ (bitsP t c l).length
  | [], _ => Nat.le_refl _
  | x :: l, h => by
    have := bitsP_ge (c := c) l (fun y hy => h y (List.mem_cons_of_mem _ hy))
    have := h x (List.mem_cons_self ..)
    unfold bitsP at *
    rw [List.flatMap_cons, List.length_append, bitsOf_len, List.length_cons]; omega
theorem cntF_pos {l : List UInt8} {x : UInt8} (h : x ∈ l) : 0 < cntF l x.toNat := by
  unfold cntF
  rw [List.countP_pos_iff]
  exact ⟨x, h, by simp⟩
theorem lenT_off {l : List UInt8} (hl : l.length < 134217728) {i : Nat} (hi : 256 ≤ i) : lenT (cntF l) i = 0 := by
  rcases lens_cases (cntF l) (cntF_small (by omega)) with ⟨h1, h2⟩ | ⟨c, h1, h2⟩ | ⟨_, d, hd⟩
  · rw [h2]
  · have := c.toNat_lt
    rw [h2, upd_ne _ _ (by omega)]
  · exact hd.no_leaf (by omega)
theorem tabL_lensL {t : Nat → Nat} (h8 : ∀ i, t i < 256) (h0 : ∀ i, 256 ≤ i → t i = 0) : tabL (lensL t) 256 = t := by
  funext i
  unfold tabL
  by_cases h : i < 256
  · rw [if_pos h, lensL, List.getD_eq_getElem?_getD, List.getElem?_map, List.getElem?_range h]
    exact Nat.mod_eq_of_lt (h8 i)
  · rw [if_neg h, h0 i (by omega)]
theorem sb_append (a b : List UInt8) (i : Nat) (h : i < 8 * a.length) : sb (a ++ b) i = sb a i := by
  unfold sb
  rw [List.getD_eq_getElem?_getD, List.getD_eq_getElem?_getD, List.getElem?_append_left (by omega)]
/-- what is packed is read, whatever stands behind it -/
theorem readP_pack (l more : List UInt8) (hl : l.length < 134217728) : (vrd (packP l ++ more) 0) = (l.length, 0, (vb l.length).length) ∧ readP (packP l ++ more) (vb l.length).length l.length = some l := by
  have hv := vrd_vb [] (rbl (pk (lensL (lenT (cntF l)))) ++ pack (bitsP (lenT (cntF l)) (codT (lenT (cntF l))) l) ++ more) l.length (by omega)
  have h56 := lenT_text hl
  have hoff := fun i => lenT_off hl (i := i)
  have hce := codE_text hl
  have hpos : ∀ x ∈ l, 0 < lenT (cntF l) x.toNat := fun x hx => by
    have h1 := cntF_pos hx
    have h2 := x.toNat_lt
    rcases Nat.eq_zero_or_pos (lenT (cntF l) x.toNat) with h | h
    · have := (lenT_zero_iff (cntF l) (cntF_small (by omega)) (by omega)).1 h; omega
    · exact h
  have e : packP l = vb l.length ++ rbl (pk (lensL (lenT (cntF l)))) ++ pack (bitsP (lenT (cntF l)) (codT (lenT (cntF l))) l) := rfl
  rw [e]
  generalize lenT (cntF l) = t at *
  have h8 : ∀ i, t i < 256 := fun i => by have := h56 i; omega
  have hll : (lensL t).length = 256 := by simp [lensL]
  have hr := rrl_rbl (vb l.length) (lensL t) (pack (bitsP t (codT t) l) ++ more) (lensL_lt h8) (by omega)
  rw [hll] at hr
  simp only [List.append_assoc] at hr hv ⊢
  simp only [List.nil_append, List.length_nil, Nat.zero_add] at hv
  refine ⟨hv, ?_⟩
  have hOK : lensOK 0 (lensL t) = true := by
    unfold lensOK
    rw [hll, Bool.and_eq_true, Bool.and_eq_true]
    refine ⟨⟨rfl, rfl⟩, List.all_eq_true.2 fun x hx => ?_⟩
    simp only [lensL, List.mem_map] at hx
    obtain ⟨j, _, rfl⟩ := hx
    exact decide_eq_true (h56 j)
  have hbl := bitsP_ge (c := codT t) l hpos
  have hpl := pack_len (bitsP t (codT t) l)
  have hdrop : (vb l.length ++ (rbl (pk (lensL t)) ++ (pack (bitsP t (codT t) l) ++ more))).drop ((vb l.length).length + (rbl (pk (lensL t))).length) = pack (bitsP t (codT t) l) ++ more := by
    rw [← List.append_assoc, List.drop_left' (by rw [List.length_append])]
  have hlen : (vb l.length ++ (rbl (pk (lensL t)) ++ (pack (bitsP t (codT t) l) ++ more))).length - ((vb l.length).length + (rbl (pk (lensL t))).length) = (pack (bitsP t (codT t) l)).length + more.length := by
    simp only [List.length_append]; omega
  unfold readP
  have hr2 : rrl (vb l.length ++ (rbl (pk (lensL t)) ++ (pack (bitsP t (codT t) l) ++ more))) (vb l.length).length 256 = (lensL t, 0, (vb l.length).length + (rbl (pk (lensL t))).length) := hr
  rw [hr2]
  simp only
  rw [tabL_lensL h8 (fun i hi => hoff i hi), hlen, hdrop, if_pos ⟨hOK, hce, by omega⟩, decP_bits hce l 0 [] hpos (fun i hi => ?_) (by omega), List.nil_append]
  rw [Nat.zero_add, sb_append _ _ _ (by omega)]
  exact sb_cbytes _ _ _ (by omega)
/-- THE STAGE'S THEOREM, plain -/
theorem unpackP_pack (l : List UInt8) (hl : l.length < 134217728) (most : Int) (hm : (l.length : Int) ≤ most) : unpackP (packP l) most = (l, 0) := by
  have h := readP_pack l [] hl
  rw [List.append_nil] at h
  unfold unpackP
  rw [h.1]
  simp only
  rw [if_neg (by omega), if_neg (by omega), if_neg (by omega), h.2]
  simp only
  rw [if_pos trivial]
theorem unpackP_long (l : List UInt8) (hl : l.length < 134217728) (most : Int) (h0 : 0 ≤ most) (hm : most < l.length) : unpackP (packP l) most = ([], 4) := by
  have h := readP_pack l [] hl
  rw [List.append_nil] at h
  unfold unpackP
  rw [h.1]
  simp only
  rw [if_neg (by omega), if_neg (by omega), if_pos (by omega)]
theorem unpackP_more (l more : List UInt8) (hl : l.length < 134217728) (hmo : more ≠ []) (most : Int) (hm : (l.length : Int) ≤ most) : unpackP (packP l ++ more) most = ([], 3) := by
  have h := readP_pack l more hl
  unfold unpackP
  rw [h.1]
  simp only
  rw [if_neg (by omega), if_neg (by omega), if_neg (by omega), h.2]
  simp only
  rw [if_neg]
  intro e
  have := congrArg List.length e
  rw [List.length_append] at this
  have : more.length ≠ 0 := fun e => hmo (List.eq_nil_of_length_eq_zero e)
  omega
end Go.Proofs.YtjdglpngcdcneaaGreat
