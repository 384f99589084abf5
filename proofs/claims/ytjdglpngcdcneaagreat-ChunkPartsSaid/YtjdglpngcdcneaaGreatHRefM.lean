/- Layer 7, the document's trees in memory. -/
import Derived.Test.YtjdglpngcdcneaaGreatHRefP
namespace Go.Proofs.YtjdglpngcdcneaaGreat
open Go.RowKit Go.WideShapes
set_option linter.unusedVariables false
set_option linter.unusedSimpArgs false
set_option linter.unusedSectionVars false
def intsV (l : List Nat) : List Value := l.map fun n : Nat => .int .i64 (n : Int)
theorem intsV_len (l : List Nat) : (intsV l).length = l.length := by simp [intsV]
theorem intsV_append (l m : List Nat) : intsV (l ++ m) = intsV l ++ intsV m := by simp [intsV]
theorem intsV_get (l : List Nat) (i : Nat) (h : i < l.length) : (intsV l)[i]? = some (.int .i64 (l.getD i 0 : Nat)) := by simp [intsV, h]
theorem intsV_set (l : List Nat) (i n : Nat) : (intsV l).set i (.int .i64 n) = intsV (l.set i n) := by simp [intsV, List.map_set]
theorem intsV_one (l : List Nat) : ∀ u ∈ intsV l, u.oneCell' = true := by
  intro u hu; simp only [intsV, List.mem_map] at hu; obtain ⟨c, _, rfl⟩ := hu; rfl
theorem int_info : (Tryz.prog.info? 3).map (fun i => (i.zero, i.size, i.bytes)) = some (some (.int .i64 0), 1, 8) := by kernel_rfl
theorem rtree_info : (Tryz.prog.info? 119).map (fun i => (i.zero, i.size, i.bytes)) = some (some (.agg #[.int .u64 0, .slice none 0 0, .slice none 0 0]), 3, 56) := by kernel_rfl
/-- the first N slices hold these numbers -/
def lsI (N : Nat) (vs : Nat → Value) (ls : Nat → List Nat) : Thing where
  holds w fp := (∀ k, k < N → Own w 3 1 (vs k) (ls k).length (intsV (ls k))) ∧ fp = fun b => ∃ k, k < N ∧ (vs k).ownBlock = some b
  keep h m hd := ⟨fun k hk => (h.1 k hk).keep m (fun b hb => hd b (by rw [h.2]; exact ⟨k, hk, hb⟩)), h.2⟩
  lt h hb := by
    rw [h.2] at hb
    obtain ⟨k, hk, e⟩ := hb
    exact (h.1 k hk).lt _ e
section
variable {S : Nat → Prop} {W w : World} {L : List Thing}
theorem St.lsINil (h : St S W w L) (vs : Nat → Value) (ls : Nat → List Nat) : St S W w (lsI 0 vs ls :: L) :=
  h.add (Mut.refl _ _) ⟨_, ⟨fun k hk => by omega, rfl⟩, fun k hk => by obtain ⟨j, hj, _⟩ := hk; omega⟩
theorem St.lsIGet {N : Nat} {vs : Nat → Value} {ls : Nat → List Nat} (h : St S W w (lsI N vs ls :: L)) (k : Nat) (hk : k < N) : Own w 3 1 (vs k) (ls k).length (intsV (ls k)) := by
  obtain ⟨fp, h1, _⟩ := h.head; exact h1 k hk
theorem St.lsIAdd {N : Nat} {vs : Nat → Value} {ls : Nat → List Nat} {v : Value} {l : List Nat} (h : St S W w (ownT 3 1 v l.length (intsV l) :: lsI N vs ls :: L)) :
    St S W w (lsI (N + 1) (updA vs N v) (updA ls N l) :: L) := by
  obtain ⟨hm, all, fp, rest, ⟨o1, rfl⟩, ⟨fp2, rest2, ⟨o2, rfl⟩, g2, g3, g4, g5⟩, h3, h4, h5⟩ := h
  refine ⟨hm, all, (fun b => ∃ k, k < N + 1 ∧ (updA vs N v k).ownBlock = some b), rest2, ⟨fun k hk => ?_, rfl⟩, g2, ?_, fun k => ?_, ?_⟩
  · by_cases e : k = N
    · subst e; rw [updA_self, updA_self]; exact o1
    · rw [updA_ne _ _ e, updA_ne _ _ e]; exact o2 k (by omega)
  · rintro b ⟨k, hk, hb⟩ hr
    by_cases e : k = N
    · subst e; rw [updA_self] at hb; exact h3 b hb ((g4 b).2 (.inr hr))
    · rw [updA_ne _ _ e] at hb; exact g3 b ⟨k, by omega, hb⟩ hr
  · rw [h4, g4]
    constructor
    · rintro (h | ⟨j, hj, hb⟩ | h)
      · exact .inl ⟨N, by omega, by rw [updA_self]; exact h⟩
      · exact .inl ⟨j, by omega, by rw [updA_ne _ _ (by omega)]; exact hb⟩
      · exact .inr h
    · rintro (⟨j, hj, hb⟩ | h)
      · by_cases e : j = N
        · subst e; rw [updA_self] at hb; exact .inl hb
        · rw [updA_ne _ _ e] at hb; exact .inr (.inl ⟨j, by omega, hb⟩)
      · exact .inr (.inr h)
  · rintro b ⟨k, hk, hb⟩
    by_cases e : k = N
    · subst e; rw [updA_self] at hb; exact h5 b hb
    · rw [updA_ne _ _ e] at hb; exact g5 b ⟨k, by omega, hb⟩
/-- one is no longer held -/
theorem St.lsIKill {N : Nat} {vs : Nat → Value} {ls : Nat → List Nat} (h : St S W w (lsI N vs ls :: L)) (a : Nat) : St S W w (lsI N (updA vs a (.slice none 0 0)) (updA ls a []) :: L) := by
  refine h.upd (fun fp h1 => ⟨fun b => ∃ k, k < N ∧ (updA vs a (.slice none 0 0) k).ownBlock = some b, ⟨fun k hk => ?_, rfl⟩, Mut.refl _ _, fun b hb => ?_⟩)
  · by_cases e : k = a
    · subst e; rw [updA_self, updA_self]; exact Own.nil _ _ _
    · rw [updA_ne _ _ e, updA_ne _ _ e]; exact h1.1 k hk
  · obtain ⟨k, hk, e⟩ := hb
    left
    rw [h1.2]
    by_cases ek : k = a
    · subst ek; rw [updA_self] at e; cases e
    · rw [updA_ne _ _ ek] at e; exact ⟨k, hk, e⟩
theorem St.leafI {g : Nat} {x : Nat} (h : St S W w (blkT g #[.int .i64 (x : Nat)] 3 :: L)) : St S W w (ownT 3 1 (.slice (some ⟨g, 0, none⟩) 1 1) 1 (intsV [x]) :: L) := by
  refine h.tell (fun fp hf => ⟨⟨rfl, .inr ⟨g, 1, _, rfl, Nat.zero_le _, hf.1, ?_⟩⟩, ?_⟩)
  · exact ⟨by omega, by decide, rfl, by rfl⟩
  · rw [hf.2]
    funext k
    show (k = g) = (some g = some k)
    simp only [Option.some.injEq, eq_comm]
end
/-- a tree's cells -/
def rtC (Wt : Nat → Nat) (vb vd : Nat → Value) (k : Nat) : List Value := [.int .u64 (Wt k : Nat), vb k, vd k]
def rowL (Wt : Nat → Nat) (vb vd : Nat → Value) (N : Nat) : List Value := (List.range N).flatMap (rtC Wt vb vd)
theorem rowL_len (Wt : Nat → Nat) (vb vd : Nat → Value) : ∀ N, (rowL Wt vb vd N).length = N * 3
  | 0 => rfl
  | N + 1 => by
    have := rowL_len Wt vb vd N
    unfold rowL at *
    rw [List.range_succ, List.flatMap_append, List.length_append, this, List.flatMap_singleton]
    show N * 3 + 3 = _
    omega
theorem rowL_snoc (Wt : Nat → Nat) (vb vd : Nat → Value) (N : Nat) : rowL Wt vb vd (N + 1) = rowL Wt vb vd N ++ rtC Wt vb vd N := by
  unfold rowL; rw [List.range_succ, List.flatMap_append, List.flatMap_singleton]
theorem rowL_get (Wt : Nat → Nat) (vb vd : Nat → Value) : ∀ (N k j : Nat), k < N → j < 3 → (rowL Wt vb vd N)[k * 3 + j]? = (rtC Wt vb vd k)[j]?
  | 0, k, j, h, _ => by omega
  | N + 1, k, j, hk, hj => by
    rw [rowL_snoc]
    by_cases e : k = N
    · subst e
      rw [List.getElem?_append_right (by rw [rowL_len]; omega), rowL_len, Nat.add_sub_cancel_left]
    · rw [List.getElem?_append_left (by rw [rowL_len]; omega)]
      exact rowL_get Wt vb vd N k j (by omega) hj
theorem rowL_congr {Wt Wu : Nat → Nat} {vb vd ub ud : Nat → Value} {N : Nat} (h : ∀ k, k < N → Wt k = Wu k ∧ vb k = ub k ∧ vd k = ud k) : rowL Wt vb vd N = rowL Wu ub ud N := by
  unfold rowL
  rw [List.flatMap_def, List.flatMap_def, List.map_congr_left (fun k hk => ?_)]
  obtain ⟨a, b, c⟩ := h k (List.mem_range.1 hk)
  unfold rtC
  rw [a, b, c]
theorem rowL_new (Wt : Nat → Nat) (vb vd : Nat → Value) (N x : Nat) (u v : Value) : rowL (updA Wt N x) (updA vb N u) (updA vd N v) (N + 1) = rowL Wt vb vd N ++ [.int .u64 (x : Nat), u, v] := by
  rw [rowL_snoc]
  congr 1
  · exact rowL_congr (fun k hk => ⟨updA_ne _ _ (by omega), updA_ne _ _ (by omega), updA_ne _ _ (by omega)⟩)
  · unfold rtC; rw [updA_self, updA_self, updA_self]
theorem rowL_set (Wt : Nat → Nat) (vb vd : Nat → Value) (N a : Nat) (ha : a < N) (u : Value) : (rowL Wt vb vd N).set (a * 3 + 1) u = rowL Wt (updA vb a u) vd N := by
  apply List.ext_getElem?
  intro i
  rcases Nat.lt_or_ge i (N * 3) with hi | hi
  · obtain ⟨k, j, hj, rfl⟩ : ∃ k j, j < 3 ∧ i = k * 3 + j := ⟨i / 3, i % 3, Nat.mod_lt _ (by omega), by omega⟩
    rw [rowL_get _ _ _ N k j (by omega) hj, List.getElem?_set, rowL_len]
    by_cases e : k = a
    · subst e
      by_cases ej : j = 1
      · subst ej
        rw [if_pos rfl, if_pos (by omega)]
        unfold rtC; rw [updA_self]; rfl
      · rw [if_neg (by omega), rowL_get _ _ _ N k j ha hj]
        unfold rtC
        rw [updA_self]
        rcases (show j = 0 ∨ j = 2 by omega) with h | h <;> (subst h; rfl)
    · rw [if_neg (by omega), rowL_get _ _ _ N k j (by omega) hj]
      unfold rtC
      rw [updA_ne _ _ e]
  · rw [List.getElem?_eq_none (by rw [List.length_set, rowL_len]; exact hi), List.getElem?_eq_none (by rw [rowL_len]; exact hi)]
/-- the depths, the first i of them one more -/
def incL (l : List Nat) (i : Nat) : List Nat := (l.take i).map (· + 1) ++ l.drop i
theorem incL_len (l : List Nat) (i : Nat) (h : i ≤ l.length) : (incL l i).length = l.length := by unfold incL; rw [List.length_append, List.length_map, List.length_take, List.length_drop]; omega
theorem incL_get (l : List Nat) (i : Nat) (h : i < l.length) : (incL l i).getD i 0 = l.getD i 0 := by
  unfold incL
  rw [List.getD_eq_getElem?_getD, List.getElem?_append_right (by rw [List.length_map, List.length_take]; omega), List.length_map, List.length_take, Nat.min_eq_left (by omega), Nat.sub_self, List.getElem?_drop, Nat.add_zero, List.getD_eq_getElem?_getD]
theorem incL_set (l : List Nat) (i : Nat) (h : i < l.length) : (incL l i).set i (l.getD i 0 + 1) = incL l (i + 1) := by
  unfold incL
  rw [List.set_append_right _ _ (by rw [List.length_map, List.length_take]; omega), List.length_map, List.length_take, Nat.min_eq_left (by omega), Nat.sub_self, List.drop_eq_getElem_cons h, List.set_cons_zero, List.take_succ_eq_append_getElem h, List.map_append, List.append_assoc]
  rw [List.getD_eq_getElem?_getD, List.getElem?_eq_getElem h]
  rfl
theorem incL_zero (l : List Nat) : incL l 0 = l := by unfold incL; simp
theorem incL_all (l : List Nat) : incL l l.length = l.map (· + 1) := by unfold incL; simp
theorem Own.cellsI {w : World} {g n cap : Nat} {xs : List Value} (h : Own w 3 1 (.slice (some ⟨g, 0, none⟩) n cap) n xs) : ∀ j u, xs[j]? = some u → w.cell? ((⟨g, 0, none⟩ : Addr).add j) = some u := fun j u hj => by
  have hl := h.len
  have hjl : j < n * 1 := by
    rcases Nat.lt_or_ge j xs.length with h | h
    · omega
    · rw [List.getElem?_eq_none h] at hj; cases hj
  rw [add_plain, Nat.zero_add, Own.cell h j hjl, hj]
section
variable {P : Program}
theorem step_pushAll {ops : Array Oper} {o : Oper} {a : Act} {K : Act → World → Prop} {Q : Exit → Act → World → Prop} {E : Prop} (hgd : o.guard = none) (s x : Operand) (t : TypeId)
    (ho : o.op = .call { callee := .builtin .append, args := #[s, x], argTypes := #[t, t] })
    (e : TypeId) (z : Value) (size bytes : Nat) (ht : P.underlying t = some (.slice e)) (hinfo : (P.info? e).map (fun i => (i.zero, i.size, i.bytes)) = some (some z, size, bytes)) (hzs : z.cells.size = size) (hsz : 0 < size)
    {S : Nat → Prop} {W w : World} {v : Value} {n : Nat} {xs : List Value} {L : List Thing} (h : St S W w (ownT e size v n xs :: L)) (ad : Addr) (m c : Nat) (news : List Value)
    (hs : a.eval s = v) (hx : a.eval x = .slice (some ad) m c) (hn : news.length = m * size) (hc : ∀ j u, news[j]? = some u → w.cell? (ad.add j) = some u) (h1 : ∀ u ∈ news, u.oneCell' = true)
    (h63 : n + m ≤ maxLen) (hbytes : (n + m) * bytes ≤ 140737488355328)
    (hK : ∀ A' c' w', St S W w' (ownT e size (.slice A' (n + m) c') (n + m) (xs ++ news) :: L) → K (a.put o.dst (.slice A' (n + m) c')) w') :
    if Region.wanted o (yielded ops a.tmps) = true then Oper.wp P o a w K Q else E := by
  have hw : Region.wanted o (yielded ops a.tmps) = true := by simp [Region.wanted, hgd]
  rw [if_pos hw]
  obtain ⟨i, hi, hz, hsize, hby⟩ := info_parts hinfo
  obtain ⟨v', w', hr, g2, g3, g4⟩ := run_append_moved (P := P) w t o.type e i z size bytes ht hi hz hsize hby hzs hsz v n xs h.own ad m c news hn hc h1 h63 hbytes
  obtain ⟨A', c', rfl⟩ := g2.form
  unfold Oper.wp execOp
  simp only [ho, resolve, invoke, builtin, Sem.run_bind, Sem.run_pure, Result.andThen_ok, List.map_toArray, List.map_cons, List.map_nil, hs, hx, hr]
  exact hK A' c' w' (h.appended g2 g3 g4)
end
end Go.Proofs.YtjdglpngcdcneaaGreat
