/- One more behind a slice; slices of numbers. -/
import Derived.Test.YtkjnpjkfagdegaaComp
import Derived.Test.YtkjnpjkfagdegaaArg
import Derived.Test.YtkjnpjkfagdegaaRows
namespace Go.Proofs.Ytkjnpjkfagdegaa
open Go.RowKit Go.WideShapes
set_option linter.unusedVariables false
set_option linter.unusedSimpArgs false
section
variable {P : Program}
theorem wpList_push {ops : Array Oper} {rest : List Oper} {o : Oper} {a : Act} {Q : Exit → Act → World → Prop} (hgd : o.guard = none) (s x : Operand) (t : TypeId)
    (ho : o.op = .call { callee := .builtin .append, args := #[s, x], argTypes := #[t, t] })
    (e : TypeId) (z : Value) (size bytes : Nat) (ht : P.underlying t = some (.slice e)) (hinfo : (P.info? e).map (fun i => (i.zero, i.size, i.bytes)) = some (some z, size, bytes)) (hzs : z.cells.size = size) (hsz : 0 < size)
    {S : Nat → Prop} {W w0 : World} {v : Value} {n : Nat} {xs : List Value} {L : List Thing} (h : St S W w0 (ownT e size v n xs :: L)) {news : Array Value} {bt : TypeId}
    (hs : a.eval s = v) (hx : a.eval x = .slice (some ⟨w0.heap.size, 0, none⟩) 1 1) (hn : news.size = size) (h1 : ∀ u ∈ news.toList, u.oneCell' = true)
    (h63 : n + 1 ≤ maxLen) (hbytes : (n + 1) * bytes ≤ 140737488355328)
    (hk : ∀ A' c' w', St S W w' (ownT e size (.slice A' (n + 1) c') (n + 1) (xs ++ news.toList) :: L) → wpList P ops Q rest (a.put o.dst (.slice A' (n + 1) c')) w') : wpList P ops Q (o :: rest) a (w0.alloc (.cells news bt)) := by
  have h2 := h.alloc news bt
  have hb := h2.blk
  have h3 := h2.swap
  refine wpList_append _ hgd s x t ho e z size bytes ht hinfo hzs hsz v n xs hs h3.own ⟨w0.heap.size, 0, none⟩ 1 1 news.toList hx (by simpa using hn) (fun j u hj => ?_) h1 h63 hbytes ?_
  · rw [add_plain, Nat.zero_add, cell_of_heap hb]; simpa using hj
  · intro v' w' hown hm hv
    obtain ⟨A', c', rfl⟩ := hown.form
    exact hk A' c' w' (h3.appended hown hm hv).swap.drop
/-- the same, with what a call itself made -/
theorem wpList_push2 {ops : Array Oper} {rest : List Oper} {o : Oper} {a : Act} {Q : Exit → Act → World → Prop} (hgd : o.guard = none) (s x : Operand) (t : TypeId)
    (ho : o.op = .call { callee := .builtin .append, args := #[s, x], argTypes := #[t, t] })
    (e : TypeId) (z : Value) (size bytes : Nat) (ht : P.underlying t = some (.slice e)) (hinfo : (P.info? e).map (fun i => (i.zero, i.size, i.bytes)) = some (some z, size, bytes)) (hzs : z.cells.size = size) (hsz : 0 < size)
    {S : Nat → Prop} {W w0 : World} {v : Value} {n : Nat} {xs : List Value} {L : List Thing} (h : St S W w0 (ownT e size v n xs :: L)) {W2 : World} {L2 : List Thing} (g : St noB W2 w0 (ownT e size v n xs :: L2)) {news : Array Value} {bt : TypeId}
    (hs : a.eval s = v) (hx : a.eval x = .slice (some ⟨w0.heap.size, 0, none⟩) 1 1) (hn : news.size = size) (h1 : ∀ u ∈ news.toList, u.oneCell' = true)
    (h63 : n + 1 ≤ maxLen) (hbytes : (n + 1) * bytes ≤ 140737488355328)
    (hk : ∀ A' c' w', St S W w' (ownT e size (.slice A' (n + 1) c') (n + 1) (xs ++ news.toList) :: L) → St noB W2 w' (ownT e size (.slice A' (n + 1) c') (n + 1) (xs ++ news.toList) :: L2) → wpList P ops Q rest (a.put o.dst (.slice A' (n + 1) c')) w') : wpList P ops Q (o :: rest) a (w0.alloc (.cells news bt)) := by
  have h2 := h.alloc news bt
  have hb := h2.blk
  have h3 := h2.swap
  refine wpList_append _ hgd s x t ho e z size bytes ht hinfo hzs hsz v n xs hs h3.own ⟨w0.heap.size, 0, none⟩ 1 1 news.toList hx (by simpa using hn) (fun j u hj => ?_) h1 h63 hbytes ?_
  · rw [add_plain, Nat.zero_add, cell_of_heap hb]; simpa using hj
  · intro v' w' hown hm hv
    obtain ⟨A', c', rfl⟩ := hown.form
    exact hk A' c' w' (h3.appended hown hm hv).swap.drop (((g.alloc news bt).swap).appended hown hm hv).swap.drop
/-- all of a slice behind a slice that the call owns -/
theorem wpList_pushAll {ops : Array Oper} {rest : List Oper} {o : Oper} {a : Act} {Q : Exit → Act → World → Prop} (hgd : o.guard = none) (s x : Operand) (t : TypeId)
    (ho : o.op = .call { callee := .builtin .append, args := #[s, x], argTypes := #[t, t] })
    (e : TypeId) (z : Value) (size bytes : Nat) (ht : P.underlying t = some (.slice e)) (hinfo : (P.info? e).map (fun i => (i.zero, i.size, i.bytes)) = some (some z, size, bytes)) (hzs : z.cells.size = size) (hsz : 0 < size)
    {S : Nat → Prop} {W w : World} {v : Value} {n : Nat} {xs : List Value} {L : List Thing} (h : St S W w (ownT e size v n xs :: L)) {W2 : World} {L2 : List Thing} (g : St noB W2 w (ownT e size v n xs :: L2))
    (A : Option Addr) (m c : Nat) (news : List Value) (hs : a.eval s = v) (hx : a.eval x = .slice A m c) (hn : news.length = m * size) (hnil : A = none → m = 0)
    (hc : ∀ ad, A = some ad → ∀ j u, news[j]? = some u → w.cell? (ad.add j) = some u) (h1 : ∀ u ∈ news, u.oneCell' = true)
    (h63 : n + m ≤ maxLen) (hbytes : (n + m) * bytes ≤ 140737488355328)
    (hk : ∀ A' c' w', St S W w' (ownT e size (.slice A' (n + m) c') (n + m) (xs ++ news) :: L) → St noB W2 w' (ownT e size (.slice A' (n + m) c') (n + m) (xs ++ news) :: L2) → wpList P ops Q rest (a.put o.dst (.slice A' (n + m) c')) w') : wpList P ops Q (o :: rest) a w := by
  cases A with
  | none =>
    obtain rfl := hnil rfl
    obtain rfl : news = [] := List.eq_nil_of_length_eq_zero (by omega)
    obtain ⟨A0, c0, rfl⟩ := h.own.form
    refine wpList_append_none w hgd s x t ho e z size bytes ht hinfo (.slice A0 n c0) n xs hs h.own c hx ?_
    have := hk A0 c0 w
    simp only [List.append_nil, Nat.add_zero] at this
    exact this h g
  | some ad =>
    refine wpList_append w hgd s x t ho e z size bytes ht hinfo hzs hsz v n xs hs h.own ad m c news hx hn (hc ad rfl) h1 h63 hbytes ?_
    intro v' w' hown hm hv
    obtain ⟨A', c', rfl⟩ := hown.form
    exact hk A' c' w' (h.appended hown hm hv) (g.appended hown hm hv)
end
/-- numbers' cells -/
def numsV (l : List Nat) : List Value := l.map fun n : Nat => .int .u64 (n : Int)
theorem numsV_len (l : List Nat) : (numsV l).length = l.length := by simp [numsV]
theorem numsV_append (l m : List Nat) : numsV (l ++ m) = numsV l ++ numsV m := by simp [numsV]
theorem numsV_get (l : List Nat) (i : Nat) (h : i < l.length) : (numsV l)[i]? = some (.int .u64 (l.getD i 0 : Nat)) := by simp [numsV, h]
theorem numsV_set (l : List Nat) (i n : Nat) : (numsV l).set i (.int .u64 n) = numsV (l.set i n) := by simp [numsV, List.map_set]
theorem numsV_one (l : List Nat) : ∀ u ∈ numsV l, u.oneCell' = true := by
  intro u hu; simp only [numsV, List.mem_map] at hu; obtain ⟨c, _, rfl⟩ := hu; rfl
theorem zeros (n : Nat) : madeCells #[Value.int .u64 0] n = (numsV (List.replicate n 0)).toArray := by
  apply Array.toList_inj.1
  rw [toList_madeCells_one]
  simp [numsV]
theorem u64_info : (Try.prog.info? 22).map (fun i => (i.zero, i.size, i.bytes)) = some (some (.int .u64 0), 1, 8) := by kernel_rfl
/-- a slice of numbers -/
abbrev nlT (v : Value) (l : List Nat) : Thing := ownT 22 1 v l.length (numsV l)
theorem Own.numAt {w : World} {A : Option Addr} {n cap : Nat} {l : List Nat} (h : Own w 22 1 (.slice A n cap) n (numsV l)) (hl : l.length = n) (i : Nat) (hi : i < n) : ∃ g, A = some ⟨g, 0, none⟩ ∧ w.cell? ⟨g, i, none⟩ = some (.int .u64 (l.getD i 0 : Nat)) := by
  obtain ⟨g, c, e, _⟩ := h.slice (by omega)
  cases e
  exact ⟨g, rfl, by rw [Own.cell h i (by omega), numsV_get l i (by omega)]⟩
/-- numbers in memory -/
def NRow (w : World) (A : Option Addr) (l : List Nat) : Prop := ∀ i, i < l.length → ∃ b off, A = some ⟨b, off, none⟩ ∧ w.cell? ⟨b, off + i, none⟩ = some (.int .u64 (l.getD i 0 : Nat))
theorem NRow.ext {w w' : World} {A : Option Addr} {l : List Nat} (h : NRow w A l) (x : Ext w w') : NRow w' A l := fun i hi => by
  obtain ⟨b, off, e, hc⟩ := h i hi
  exact ⟨b, off, e, x.cell hc⟩
theorem Own.nrow {w : World} {A : Option Addr} {n cap : Nat} {l : List Nat} (h : Own w 22 1 (.slice A n cap) n (numsV l)) (hl : l.length = n) : NRow w A l := by
  intro i hi
  obtain ⟨g, e, hc⟩ := h.numAt hl i (by omega)
  exact ⟨g, 0, e, by rw [Nat.zero_add]; exact hc⟩
theorem ArgRow.nrow {w : World} {A : Option Addr} {len : Nat} {l : List Nat} {B : Nat} (h : ArgRow (repU .u64 B) 1 w A len l) : NRow w A l := by
  intro i hi
  obtain ⟨b, off, e, hc, _⟩ := h.getU i (by rw [← h.1]; exact hi)
  exact ⟨b, off, e, hc⟩
theorem ArgRow.small {k : IntKind} {w : World} {A : Option Addr} {len : Nat} {l : List Nat} {B : Nat} (h : ArgRow (repU k B) 1 w A len l) : ∀ i, i < len → l.getD i 0 < B := by
  intro i hi
  obtain ⟨b, off, e, hc, hb⟩ := h.getU i hi
  exact hb
/-- a list of numbers, as what may be appended -/
theorem NRow.cells {w : World} {A : Option Addr} {l : List Nat} (h : NRow w A l) : ∀ ad, A = some ad → ∀ j u, (numsV l)[j]? = some u → w.cell? (ad.add j) = some u := by
  intro ad e j u hj
  rcases Nat.lt_or_ge j l.length with hl | hl
  · obtain ⟨b, off, e2, hc⟩ := h j hl
    rw [e] at e2
    cases e2
    rw [numsV_get l j hl] at hj
    cases hj
    rw [add_plain]; exact hc
  · rw [List.getElem?_eq_none (by rw [numsV_len]; exact hl)] at hj; cases hj
theorem NRow.none {w : World} {A : Option Addr} {l : List Nat} (h : NRow w A l) : A = Option.none → l.length = 0 := by
  intro e
  rcases Nat.eq_zero_or_pos l.length with h0 | h0
  · exact h0
  · obtain ⟨b, off, e2, hc⟩ := h 0 h0
    rw [e] at e2; cases e2
end Go.Proofs.Ytkjnpjkfagdegaa
