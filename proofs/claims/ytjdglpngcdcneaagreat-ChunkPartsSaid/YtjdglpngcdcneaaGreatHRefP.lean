/- Layer 7: the document's rounds are the heap's: plain. -/
import Derived.Test.YtjdglpngcdcneaaGreatHRefL
namespace Go.Proofs.YtjdglpngcdcneaaGreat
open Go.RowKit
set_option linter.unusedVariables false
set_option linter.unusedSimpArgs false
set_option linter.unusedSectionVars false
theorem leastP_spec {W : Nat → Nat} {lv : Nat → Bool} {but : Int} {j0 : Nat} (h1 : lv j0 = true) (h2 : (j0 : Int) ≠ but) {N : Nat} (hN : j0 < N) (h : ∀ j, j < N → lv j = true → (j : Int) ≠ but → W j0 < W j ∨ (W j0 = W j ∧ j0 ≤ j)) :
    leastP W lv but N = j0 := by
  have before : ∀ i, i ≤ j0 → leastP W lv but i = -1 ∨ ∃ j : Nat, j < i ∧ leastP W lv but i = j ∧ W j0 < W j := by
    intro i
    induction i with
    | zero => intro _; exact .inl rfl
    | succ i ih =>
      intro hi
      rw [leastP]
      split
      · rename_i hc
        have := h i (by omega) hc.2.1 hc.1
        exact .inr ⟨i, by omega, rfl, by omega⟩
      · rcases ih (by omega) with e | ⟨j, e1, e2, e3⟩
        · exact .inl e
        · exact .inr ⟨j, by omega, e2, e3⟩
  have after : ∀ i, j0 < i → i ≤ N → leastP W lv but i = j0 := by
    intro i
    induction i with
    | zero => intro h; omega
    | succ i ih =>
      intro hi hiN
      rw [leastP]
      by_cases e : i = j0
      · subst e
        rw [if_pos]
        refine ⟨h2, h1, ?_⟩
        rcases before i (Nat.le_refl _) with e | ⟨j, _, e2, e3⟩
        · left; rw [e]; omega
        · right; rw [e2]; simpa using e3
      · rw [ih (by omega) (by omega), if_neg]
        rintro ⟨a1, a2, a3⟩
        have := h i (by omega) a2 a1
        rcases a3 with a3 | a3
        · omega
        · have : W i < W j0 := by simpa using a3
          omega
  exact after N hN (Nat.le_refl _)
structure RR (L0 : List UInt8) (s : HS) (d W : Nat → Nat) (bs ds : Nat → List Nat) (vb : Nat → Value) : Prop where
  ok : HOK s
  heap : HeapOK s
  nums : (s.l.map (·.2)).Nodup
  weight : ∀ x ∈ s.l, W x.2 = x.1
  bytes : ∀ x ∈ s.l, bs x.2 = (s.ls x.2).map (·.toNat)
  deps : ∀ x ∈ s.l, ds x.2 = (s.ls x.2).map fun c => d c.toNat
  dead : ∀ k, k < s.n → (∀ x ∈ s.l, x.2 ≠ k) → bs k = []
  nilv : ∀ k, k < s.n → bs k = [] → vb k = .slice none 0 0
  small : ∀ k, k < s.n → W k < 18446744073709551616
  room : QK L0 (forest s) d
  last : ∃ x ∈ s.l, x.2 + 1 = s.n
section
variable {L0 : List UInt8} {s : HS} {d W : Nat → Nat} {bs ds : Nat → List Nat} {vb : Nat → Value}
def lvOf (bs : Nat → List Nat) (k : Nat) : Bool := !(bs k).isEmpty
theorem lvOf_iff (k : Nat) : lvOf bs k = true ↔ bs k ≠ [] := by
  unfold lvOf
  cases h : bs k <;> simp
theorem RR.live (h : RR L0 s d W bs ds vb) {k : Nat} (hk : k < s.n) : bs k ≠ [] ↔ ∃ x ∈ s.l, x.2 = k := by
  constructor
  · intro h1
    rcases Decidable.em (∃ x ∈ s.l, x.2 = k) with h2 | h2
    · exact h2
    · exact absurd (h.dead k hk (fun x hx e => h2 ⟨x, hx, e⟩)) h1
  · rintro ⟨x, hx, rfl⟩ e
    rw [h.bytes x hx, List.map_eq_nil_iff] at e
    have := h.ok.pos x hx
    rw [e] at this
    exact absurd this (by simp)
theorem RR.uniq (h : RR L0 s d W bs ds vb) {x y : WN} (hx : x ∈ s.l) (hy : y ∈ s.l) (e : x.2 = y.2) : x = y := by
  refine Prod.ext ?_ e
  rw [← h.weight x hx, ← h.weight y hy, e]
/-- the least tree's number, and the next one's -/
theorem RR.least0 (h : RR L0 s d W bs ds vb) (h2 : 2 ≤ s.l.length) : leastP W (lvOf bs) (-1) s.n = ((hget s.l 0).2 : Nat) := by
  have hp := two_perm s.l h2
  have m0 : hget s.l 0 ∈ s.l := hp.mem_iff.1 (by simp)
  have hn := h.ok.num _ m0
  refine leastP_spec ((lvOf_iff _).2 ((h.live hn).2 ⟨_, m0, rfl⟩)) (by omega) hn (fun j hj hl _ => ?_)
  obtain ⟨x, hx, rfl⟩ := (h.live hj).1 ((lvOf_iff _).1 hl)
  have := least_of h.heap hx
  unfold wle at this
  rw [wlt_no] at this
  rw [h.weight x hx, h.weight _ m0]
  omega
theorem RR.two (h : RR L0 s d W bs ds vb) (h2 : 2 ≤ s.l.length) : (hget (popL s.l) 0) ∈ s.l ∧ (hget s.l 0) ∈ s.l ∧ (hget s.l 0).2 ≠ (hget (popL s.l) 0).2 ∧ (∀ x ∈ s.l, x ≠ hget s.l 0 → x ≠ hget (popL s.l) 0 → x ∈ popL (popL s.l)) ∧ (∀ x ∈ popL (popL s.l), x ∈ s.l ∧ x.2 ≠ (hget s.l 0).2 ∧ x.2 ≠ (hget (popL s.l) 0).2) := by
  have hp := two_perm s.l h2
  have hn : ((popL (popL s.l) ++ [hget (popL s.l) 0] ++ [hget s.l 0]).map (·.2)).Nodup := (hp.map _).nodup_iff.2 h.nums
  rw [List.map_append, List.map_append, List.nodup_append, List.nodup_append] at hn
  obtain ⟨⟨a1, _, a3⟩, _, a4⟩ := hn
  refine ⟨hp.mem_iff.1 (by simp), hp.mem_iff.1 (by simp), fun e => ?_, fun x hx n0 n1 => ?_, fun x hx => ⟨hp.mem_iff.1 (by simp [hx]), fun e => ?_, fun e => ?_⟩⟩
  · exact a4 (hget (popL s.l) 0).2 (by simp) (hget s.l 0).2 (by simp) e.symm
  · have := hp.mem_iff.2 hx
    simp only [List.mem_append, List.mem_singleton] at this
    rcases this with (h | h) | h
    · exact h
    · exact absurd h n1
    · exact absurd h n0
  · exact a4 x.2 (by simp only [List.mem_append, List.mem_map]; exact .inl ⟨x, hx, rfl⟩) (hget s.l 0).2 (by simp) e
  · exact a3 x.2 (List.mem_map.2 ⟨x, hx, rfl⟩) (hget (popL s.l) 0).2 (by simp) e
theorem RR.least1 (h : RR L0 s d W bs ds vb) (h2 : 2 ≤ s.l.length) : leastP W (lvOf bs) ((hget s.l 0).2 : Nat) s.n = ((hget (popL s.l) 0).2 : Nat) := by
  obtain ⟨m1, m0, hne, hall, _⟩ := h.two h2
  have hn := h.ok.num _ m1
  have hh := popL_get s.l (by omega) h.heap
  refine leastP_spec ((lvOf_iff _).2 ((h.live hn).2 ⟨_, m1, rfl⟩)) (by omega) hn (fun j hj hl hb => ?_)
  obtain ⟨x, hx, rfl⟩ := (h.live hj).1 ((lvOf_iff _).1 hl)
  have hx1 : x ∈ popL s.l := by
    have := (popL_perm s.l (by omega)).mem_iff.2 hx
    simp only [List.mem_append, List.mem_singleton] at this
    rcases this with h | h
    · exact h
    · rw [h] at hb; exact absurd rfl hb
  have := least_of hh hx1
  unfold wle at this
  rw [wlt_no] at this
  rw [h.weight x hx, h.weight _ m1]
  omega
theorem RR.step (h0 : L0.Nodup) (h256 : L0.length ≤ 256) (h : RR L0 s d W bs ds vb) (h2 : 2 ≤ s.l.length) (a b : Nat) (ha : a = (hget s.l 0).2) (hb : b = (hget (popL s.l) 0).2) (v : Value) :
    RR L0 (roundS s) (fun i => d i + cntF (bsOf s) i) (updA W s.n (sumW (W a) (W b))) (updA (updA (updA bs a []) b []) s.n (bs a ++ bs b)) (updA ds s.n ((ds a ++ ds b).map (· + 1))) (updA (updA (updA vb a (.slice none 0 0)) b (.slice none 0 0)) s.n v) := by
  obtain ⟨m1, m0, hne, hall, hrest⟩ := h.two h2
  have hn0 := h.ok.num _ m0
  have hn1 := h.ok.num _ m1
  have hq := hpush_perm (popL (popL s.l)) (sumW (hget s.l 0).1 (hget (popL s.l) 0).1, s.n)
  have hcase : ∀ x ∈ (roundS s).l, x ∈ popL (popL s.l) ∨ x = (sumW (hget s.l 0).1 (hget (popL s.l) 0).1, s.n) := fun x hx => by
    rcases List.mem_append.1 (hq.mem_iff.1 hx) with h | h
    · exact .inl h
    · exact .inr (List.mem_singleton.1 h)
  have hnew : (sumW (hget s.l 0).1 (hget (popL s.l) 0).1, s.n) ∈ (roundS s).l := hq.mem_iff.2 (by simp)
  have hold : ∀ x ∈ popL (popL s.l), x ∈ (roundS s).l := fun x hx => hq.mem_iff.2 (by simp [hx])
  have hlt : ∀ x ∈ popL (popL s.l), x.2 < s.n := fun x hx => h.ok.num x (hrest x hx).1
  obtain ⟨x0, x1, rest, p1, p2, hbs, l0, l1⟩ := round_forest s h.ok h.heap h2
  have hr := QK.step h0 h256 (sumW x0.1 x1.1) s.n (h.room.perm p1)
  rw [← hbs] at hr p2
  have hroom := hr.perm p2.symm
  have hbnd := (h.room.bytes).nodup_iff.2 h0
  have hbt : bs a ++ bs b = (bsOf s).map (·.toNat) := by rw [ha, hb, h.bytes _ m0, h.bytes _ m1]; unfold bsOf; rw [List.map_append]
  have hperm := p1.flatMap_right (·.2.2)
  rw [List.flatMap_cons, List.flatMap_cons, ← List.append_assoc, ← hbs] at hperm
  have hpn := hperm.nodup_iff.1 hbnd
  have hperm2 := (p2.flatMap_right (·.2.2))
  obtain ⟨n1, _, n3⟩ := List.nodup_append.1 hpn
  have hone : ∀ c ∈ bsOf s, cntF (bsOf s) c.toNat = 1 := fun c hc => cntF_one n1 hc
  have hds : ∀ x ∈ popL (popL s.l), ∀ c ∈ s.ls x.2, cntF (bsOf s) c.toNat = 0 := fun x hx c hc => cntF_none (fun c2 hc2 e => by
    have e2 := UInt8.toNat_inj.1 e
    subst e2
    have hx0 : ∀ y ∈ s.l, x.2 ≠ y.2 → c2 ∈ s.ls y.2 → False := fun y hy hxy hcy => by
      have hxm := (hrest x hx).1
      have key : ∀ (l : List WN), ((l.map (trOf s)).flatMap (·.2.2)).Nodup → x ∈ l → y ∈ l → False := by
        intro l
        induction l with
        | nil => intro _ h; exact absurd h (List.not_mem_nil)
        | cons z l ih =>
          intro hnd hx hy
          rw [List.map_cons, List.flatMap_cons, List.nodup_append] at hnd
          obtain ⟨_, q2, q3⟩ := hnd
          rcases List.mem_cons.1 hx with ex | hx1
          · rcases List.mem_cons.1 hy with ey | hy1
            · exact hxy (by rw [ex, ey])
            · exact q3 c2 (by rw [← ex]; exact hc) c2 (List.mem_flatMap.2 ⟨trOf s y, List.mem_map.2 ⟨y, hy1, rfl⟩, hcy⟩) rfl
          · rcases List.mem_cons.1 hy with ey | hy1
            · exact q3 c2 (by rw [← ey]; exact hcy) c2 (List.mem_flatMap.2 ⟨trOf s x, List.mem_map.2 ⟨x, hx1, rfl⟩, hc⟩) rfl
            · exact ih q2 hx1 hy1
      exact key s.l hbnd hxm hy
    unfold bsOf at hc2
    rcases List.mem_append.1 hc2 with h | h
    · exact hx0 _ m0 (hrest x hx).2.1 h
    · exact hx0 _ m1 (hrest x hx).2.2 h)
  refine ⟨round_ok s h.ok h2, heap_round s h.heap h2, ?_, fun x hx => ?_, fun x hx => ?_, fun x hx => ?_, fun k hk hd => ?_, fun k hk he => ?_, fun k hk => ?_, hroom, ⟨_, hnew, rfl⟩⟩
  · refine (hq.map (·.2)).nodup_iff.2 ?_
    rw [List.map_append, List.nodup_append]
    refine ⟨?_, by simp, fun y hy z hz e => ?_⟩
    · have hp := two_perm s.l h2
      have hn : ((popL (popL s.l) ++ [hget (popL s.l) 0] ++ [hget s.l 0]).map (·.2)).Nodup := (hp.map _).nodup_iff.2 h.nums
      rw [List.append_assoc, List.map_append, List.nodup_append] at hn
      exact hn.1
    · obtain ⟨x, hx, rfl⟩ := List.mem_map.1 hy
      simp only [List.map_cons, List.map_nil, List.mem_singleton] at hz
      have := hlt x hx
      omega
  · rcases hcase x hx with hx | rfl
    · rw [updA_ne _ _ (by have := hlt x hx; omega)]; exact h.weight x (hrest x hx).1
    · rw [updA_self, ha, hb, h.weight _ m0, h.weight _ m1]
  · rcases hcase x hx with hx | rfl
    · have e1 : (roundS s).ls x.2 = s.ls x.2 := updA_ne _ _ (by have := hlt x hx; omega)
      rw [updA_ne _ _ (by have := hlt x hx; omega), updA_ne _ _ (by rw [hb]; exact (hrest x hx).2.2), updA_ne _ _ (by rw [ha]; exact (hrest x hx).2.1), e1]
      exact h.bytes x (hrest x hx).1
    · have e1 : (roundS s).ls s.n = bsOf s := updA_self _ _ _
      rw [updA_self, e1, hbt]
  · rcases hcase x hx with hx | rfl
    · have e1 : (roundS s).ls x.2 = s.ls x.2 := updA_ne _ _ (by have := hlt x hx; omega)
      rw [updA_ne _ _ (by have := hlt x hx; omega), e1, h.deps x (hrest x hx).1]
      refine List.map_congr_left (fun c hc => ?_)
      show d c.toNat = d c.toNat + cntF (bsOf s) c.toNat
      rw [hds x hx c hc]; rfl
    · have e1 : (roundS s).ls s.n = bsOf s := updA_self _ _ _
      rw [updA_self, e1, ha, hb, h.deps _ m0, h.deps _ m1, ← List.map_append, List.map_map]
      refine List.map_congr_left (fun c hc => ?_)
      show d c.toNat + 1 = d c.toNat + cntF (bsOf s) c.toNat
      rw [hone c hc]
  · have hkn : k ≠ s.n := fun e => hd _ hnew e.symm
    have hk2 : k < s.n := by have : (roundS s).n = s.n + 1 := rfl; omega
    rw [updA_ne _ _ hkn]
    by_cases e1 : k = b
    · rw [e1, updA_self]
    · rw [updA_ne _ _ e1]
      by_cases e0 : k = a
      · rw [e0, updA_self]
      · rw [updA_ne _ _ e0]
        refine h.dead k hk2 (fun x hx e => ?_)
        have := hall x hx (fun q => e0 (by rw [ha, ← q]; exact e.symm)) (fun q => e1 (by rw [hb, ← q]; exact e.symm))
        exact hd x (hold x this) e
  · by_cases hkn : k = s.n
    · subst hkn
      rw [updA_self] at he
      exfalso
      have hl : (bs a ++ bs b).length = 0 := by rw [he]; rfl
      rw [hbt, List.length_map] at hl
      have := h.ok.pos _ m0
      unfold bsOf at hl
      rw [List.length_append] at hl
      omega
    · have hk2 : k < s.n := by have : (roundS s).n = s.n + 1 := rfl; omega
      rw [updA_ne _ _ hkn] at he ⊢
      by_cases e1 : k = b
      · rw [e1, updA_self]
      · rw [updA_ne _ _ e1] at he ⊢
        by_cases e0 : k = a
        · rw [e0, updA_self]
        · rw [updA_ne _ _ e0] at he ⊢
          exact h.nilv k hk2 he
  · by_cases hkn : k = s.n
    · subst hkn
      rw [updA_self]; exact sumW_lt _ _
    · rw [updA_ne _ _ hkn]
      exact h.small k (by have : (roundS s).n = s.n + 1 := rfl; omega)
theorem RR.pair (h0 : L0.Nodup) (h256 : L0.length ≤ 256) (h : RR L0 s d W bs ds vb) (h2 : 2 ≤ s.l.length) :
    ∃ a b : Nat, a < s.n ∧ b < s.n ∧ a ≠ b ∧ leastP W (lvOf bs) (-1) s.n = (a : Int) ∧ leastP W (lvOf bs) (a : Int) s.n = (b : Int) ∧ 0 < (bs a).length ∧ 0 < (bs b).length ∧ (ds a).length = (bs a).length ∧ (ds b).length = (bs b).length ∧
      (bs a).length + (bs b).length ≤ 256 ∧ W a < 18446744073709551616 ∧ W b < 18446744073709551616 ∧ (∀ y ∈ ds a ++ ds b, y ≤ 256) ∧
      ∀ v, RR L0 (roundS s) (fun i => d i + cntF (bsOf s) i) (updA W s.n (sumW (W a) (W b))) (updA (updA (updA bs a []) b []) s.n (bs a ++ bs b)) (updA ds s.n ((ds a ++ ds b).map (· + 1))) (updA (updA (updA vb a (.slice none 0 0)) b (.slice none 0 0)) s.n v) := by
  obtain ⟨m1, m0, hne, _, _⟩ := h.two h2
  have l0 := h.least0 h2
  have l1 := h.least1 h2
  have hn0 := h.ok.num _ m0
  have hn1 := h.ok.num _ m1
  have p0 := h.ok.pos _ m0
  have p1 := h.ok.pos _ m1
  have ht := tot_perm (ls := s.ls) (two_perm s.l h2)
  rw [tot_append, tot_append] at ht
  have t0 : totS s.ls [hget s.l 0] = (s.ls (hget s.l 0).2).length := by simp [totS]
  have t1 : totS s.ls [hget (popL s.l) 0] = (s.ls (hget (popL s.l) 0).2).length := by simp [totS]
  have htot := h.ok.tot
  have hdeep : ∀ x ∈ s.l, ∀ y ∈ ds x.2, y ≤ 256 := fun x hx y hy => by
    rw [h.deps x hx] at hy
    obtain ⟨c, hc, rfl⟩ := List.mem_map.1 hy
    have := h.room.deep (trOf s x) (List.mem_map.2 ⟨x, hx, rfl⟩) c hc
    have h3 : (s.ls x.2).length ≤ totS s.ls s.l := tot_mem hx
    have h4 : (trOf s x).2.2.length = (s.ls x.2).length := rfl
    omega
  refine ⟨_, _, hn0, hn1, hne, l0, l1, ?_, ?_, ?_, ?_, ?_, h.small _ hn0, h.small _ hn1, fun y hy => ?_, fun v => h.step h0 h256 h2 _ _ rfl rfl v⟩
  · rw [h.bytes _ m0, List.length_map]; exact p0
  · rw [h.bytes _ m1, List.length_map]; exact p1
  · rw [h.bytes _ m0, h.deps _ m0, List.length_map, List.length_map]
  · rw [h.bytes _ m1, h.deps _ m1, List.length_map, List.length_map]
  · rw [h.bytes _ m0, h.bytes _ m1, List.length_map, List.length_map]; omega
  · rcases List.mem_append.1 hy with hy | hy
    · exact hdeep _ m0 y hy
    · exact hdeep _ m1 y hy
/-- the bytes' depths, put into a table -/
def outF (B D : List Nat) : Nat → Nat → Nat
  | 0 => fun _ => 0
  | q + 1 => upd (outF B D q) (B.getD q 0) (D.getD q 0 % 256)
theorem outF_spec (B : List UInt8) (d : Nat → Nat) : ∀ q, q ≤ B.length → ∀ i, outF (B.map (·.toNat)) (B.map fun c => d c.toNat) q i = if i ∈ (B.take q).map (·.toNat) then d i % 256 else 0
  | 0, _, i => by simp [outF]
  | q + 1, h, i => by
    rw [outF, List.take_succ_eq_append_getElem (by omega), List.map_append, List.map_singleton]
    have e1 : (B.map (·.toNat)).getD q 0 = B[q].toNat := by rw [List.getD_eq_getElem?_getD, List.getElem?_map, List.getElem?_eq_getElem (by omega)]; rfl
    have e2 : (B.map fun c => d c.toNat).getD q 0 = d B[q].toNat := by rw [List.getD_eq_getElem?_getD, List.getElem?_map, List.getElem?_eq_getElem (by omega)]; rfl
    rw [e1, e2]
    have ih := outF_spec B d q (by omega) i
    unfold upd
    by_cases e : i = B[q].toNat
    · rw [if_pos e, if_pos (by simp [e]), e]
    · rw [if_neg e, ih]
      by_cases hm : i ∈ (B.take q).map (·.toNat)
      · rw [if_pos hm, if_pos (List.mem_append_left _ hm)]
      · rw [if_neg hm, if_neg]
        intro h2
        rcases List.mem_append.1 h2 with h2 | h2
        · exact hm h2
        · exact e (List.mem_singleton.1 h2)
/-- one tree is left -/
theorem RR.done (h : RR L0 s d W bs ds vb) (h1 : s.l.length = 1) : 0 < s.n ∧ depS s.l.length s d = d ∧ 0 < (bs (s.n - 1)).length ∧ (ds (s.n - 1)).length = (bs (s.n - 1)).length ∧ (bs (s.n - 1)).length ≤ 256 ∧ (∀ q, q < (bs (s.n - 1)).length → (bs (s.n - 1)).getD q 0 < 256) ∧
    outF (bs (s.n - 1)) (ds (s.n - 1)) (bs (s.n - 1)).length = fun i => d i % 256 := by
  obtain ⟨x, hx, e⟩ := h.last
  obtain ⟨y, hy⟩ := List.length_eq_one_iff.1 h1
  rw [hy, List.mem_singleton] at hx
  subst hx
  have hm : x ∈ s.l := by rw [hy]; simp
  have e2 : s.n - 1 = x.2 := by omega
  have hp := h.ok.pos x hm
  have hbt := h.room.bytes
  have hfo : forest s = [trOf s x] := by unfold forest; rw [hy]; rfl
  rw [hfo, List.flatMap_singleton] at hbt
  change (s.ls x.2).Perm L0 at hbt
  have h3 : (s.ls x.2).length ≤ totS s.ls s.l := tot_mem hm
  have h4 := h.ok.tot
  rw [e2, h.bytes x hm, h.deps x hm, List.length_map, List.length_map]
  refine ⟨by omega, ?_, hp, rfl, by omega, fun q hq => ?_, ?_⟩
  · rw [h1, depS, if_pos (by omega)]
  · rw [List.getD_eq_getElem?_getD, List.getElem?_map, List.getElem?_eq_getElem (by omega)]
    exact UInt8.toNat_lt _
  · funext i
    rw [outF_spec _ _ _ (Nat.le_refl _), List.take_length]
    by_cases hi : i ∈ (s.ls x.2).map (·.toNat)
    · rw [if_pos hi]
    · rw [if_neg hi, h.room.off i (fun c hc e => hi (List.mem_map.2 ⟨c, hbt.mem_iff.2 hc, e⟩))]
end
end Go.Proofs.YtjdglpngcdcneaaGreat
