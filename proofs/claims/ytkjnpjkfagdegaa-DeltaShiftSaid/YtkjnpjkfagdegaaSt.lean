/- What a call holds in memory, thing by thing: each has a footprint of its own, no two meet, and nothing else that was there has turned. -/
import Derived.Test.YtkjnpjkfagdegaaOwn
import Derived.Test.YtkjnpjkfagdegaaAfter
namespace Go.Proofs.Ytkjnpjkfagdegaa
open Go.RowKit
set_option linter.unusedVariables false

structure Thing where
  holds : World → (Nat → Prop) → Prop
  keep : ∀ {S : Nat → Prop} {w w' : World} {fp : Nat → Prop}, holds w fp → Mut S w w' → (∀ k, fp k → ¬ S k) → holds w' fp
  lt : ∀ {w : World} {fp : Nat → Prop} {k : Nat}, holds w fp → fp k → k < w.heap.size

/-- the things of a list, within what may turn: what lies in S, or was made since W -/
def Things (S : Nat → Prop) (W w : World) : List Thing → (Nat → Prop) → Prop
  | [], all => ∀ k, ¬ all k
  | t :: L, all => ∃ fp rest, t.holds w fp ∧ Things S W w L rest ∧ (∀ k, fp k → ¬ rest k) ∧ (∀ k, all k ↔ fp k ∨ rest k) ∧ (∀ k, fp k → S k ∨ W.heap.size ≤ k)
structure St (S : Nat → Prop) (W w : World) (L : List Thing) : Prop where
  turn : Mut S W w
  things : ∃ all, Things S W w L all

theorem Things.keep {S R : Nat → Prop} {W w w' : World} (hm : Mut R w w') : ∀ {L : List Thing} {all : Nat → Prop}, Things S W w L all → (∀ k, all k → ¬ R k) → Things S W w' L all
  | [], _, h, _ => h
  | t :: L, all, ⟨fp, rest, h1, h2, h3, h4, h5⟩, hR =>
    ⟨fp, rest, t.keep h1 hm (fun k hk => hR k ((h4 k).2 (.inl hk))), Things.keep hm h2 (fun k hk => hR k ((h4 k).2 (.inr hk))), h3, h4, h5⟩
theorem Things.lt {S : Nat → Prop} {W w : World} : ∀ {L : List Thing} {all : Nat → Prop}, Things S W w L all → ∀ k, all k → k < w.heap.size
  | [], _, h, k, hk => (h k hk).elim
  | t :: L, all, ⟨fp, rest, h1, h2, h3, h4, h5⟩, k, hk => by
    rcases (h4 k).1 hk with h | h
    · exact t.lt h1 h
    · exact Things.lt h2 k h
theorem St.start (S : Nat → Prop) (W : World) : St S W W [] := ⟨Mut.refl _ _, fun _ => False, fun _ h => h⟩
theorem St.ext {S : Nat → Prop} {W w w' : World} {L : List Thing} (h : St S W w L) (x : Ext w w') : St S W w' L :=
  ⟨h.turn.ext x, let ⟨all, ht⟩ := h.things; ⟨all, ht.keep x (fun _ _ f => f)⟩⟩
/-- the first one turns -/
theorem St.upd {S : Nat → Prop} {W w w' : World} {t t' : Thing} {L : List Thing} (h : St S W w (t :: L))
    (hu : ∀ fp, t.holds w fp → ∃ fp', t'.holds w' fp' ∧ Mut fp w w' ∧ (∀ k, fp' k → fp k ∨ w.heap.size ≤ k)) : St S W w' (t' :: L) := by
  obtain ⟨hm, all, fp, rest, h1, h2, h3, h4, h5⟩ := h
  obtain ⟨fp', g1, g2, g3⟩ := hu fp h1
  refine ⟨hm.trans' g2 (fun i hi hf => (h5 i hf).resolve_right (by omega)), fun k => fp' k ∨ rest k, fp', rest, g1, h2.keep g2 (fun k hk hf => h3 k hf hk), ?_, fun k => Iff.rfl, ?_⟩
  · intro k hk hr
    rcases g3 k hk with h | h
    · exact h3 k h hr
    · have := h2.lt k hr; omega
  · intro k hk
    rcases g3 k hk with h | h
    · exact h5 k h
    · have := hm.size; right; omega
/-- a new one -/
theorem St.add {S : Nat → Prop} {W w w' : World} {t : Thing} {L : List Thing} (h : St S W w L) (x : Ext w w')
    (hn : ∃ fp, t.holds w' fp ∧ ∀ k, fp k → w.heap.size ≤ k) : St S W w' (t :: L) := by
  obtain ⟨hm, all, ht⟩ := h
  obtain ⟨fp, g1, g2⟩ := hn
  refine ⟨hm.ext x, fun k => fp k ∨ all k, fp, all, g1, ht.keep x (fun _ _ f => f), ?_, fun k => Iff.rfl, ?_⟩
  · intro k hk hr; have := ht.lt k hr; have := g2 k hk; omega
  · intro k hk; have := g2 k hk; have := hm.size; right; omega
/-- one that came in -/
theorem St.given {S : Nat → Prop} {W w : World} {t : Thing} {L : List Thing} {fp : Nat → Prop} (h : St S W w L) (ht : t.holds w fp) (hS : ∀ k, fp k → S k) (hd : ∀ all, Things S W w L all → ∀ k, fp k → ¬ all k) : St S W w (t :: L) := by
  obtain ⟨hm, all, hts⟩ := h
  exact ⟨hm, fun k => fp k ∨ all k, fp, all, ht, hts, hd all hts, fun k => Iff.rfl, fun k hk => .inl (hS k hk)⟩
theorem St.one {W : World} {t : Thing} {fp : Nat → Prop} (ht : t.holds W fp) : St fp W W [t] :=
  (St.start fp W).given ht (fun _ h => h) (fun _ h k _ hk => h k hk)
theorem St.drop {S : Nat → Prop} {W w : World} {t : Thing} {L : List Thing} (h : St S W w (t :: L)) : St S W w L := by
  obtain ⟨hm, all, fp, rest, h1, h2, h3, h4, h5⟩ := h
  exact ⟨hm, rest, h2⟩
theorem St.swap {S : Nat → Prop} {W w : World} {t u : Thing} {L : List Thing} (h : St S W w (t :: u :: L)) : St S W w (u :: t :: L) := by
  obtain ⟨hm, all, fp, rest, h1, ⟨fp2, rest2, g1, g2, g3, g4, g5⟩, h3, h4, h5⟩ := h
  refine ⟨hm, all, fp2, fun k => fp k ∨ rest2 k, g1, ⟨fp, rest2, h1, g2, ?_, fun k => Iff.rfl, h5⟩, ?_, ?_, g5⟩
  · intro k hk hr; exact h3 k hk ((g4 k).2 (.inr hr))
  · rintro k hk (hf | hr)
    · exact h3 k hf ((g4 k).2 (.inl hk))
    · exact g3 k hk hr
  · intro k
    rw [h4, g4]
    constructor
    · rintro (h | h | h)
      · exact .inr (.inl h)
      · exact .inl h
      · exact .inr (.inr h)
    · rintro (h | h | h)
      · exact .inr (.inl h)
      · exact .inl h
      · exact .inr (.inr h)
theorem St.under {S : Nat → Prop} {W w : World} {t : Thing} {L M : List Thing} (hLM : ∀ all, Things S W w L all → Things S W w M all) (h : St S W w (t :: L)) : St S W w (t :: M) := by
  obtain ⟨hm, all, fp, rest, h1, h2, h3, h4, h5⟩ := h
  exact ⟨hm, all, fp, rest, h1, hLM _ h2, h3, h4, h5⟩
theorem Things.swap {S : Nat → Prop} {W w : World} {t u : Thing} {L : List Thing} {all : Nat → Prop} (h : Things S W w (t :: u :: L) all) : Things S W w (u :: t :: L) all := by
  obtain ⟨fp, rest, h1, ⟨fp2, rest2, g1, g2, g3, g4, g5⟩, h3, h4, h5⟩ := h
  refine ⟨fp2, fun k => fp k ∨ rest2 k, g1, ⟨fp, rest2, h1, g2, ?_, fun k => Iff.rfl, h5⟩, ?_, ?_, g5⟩
  · intro k hk hr; exact h3 k hk ((g4 k).2 (.inr hr))
  · rintro k hk (hf | hr)
    · exact h3 k hf ((g4 k).2 (.inl hk))
    · exact g3 k hk hr
  · intro k
    rw [h4, g4]
    constructor
    · rintro (h | h | h)
      · exact .inr (.inl h)
      · exact .inl h
      · exact .inr (.inr h)
    · rintro (h | h | h)
      · exact .inr (.inl h)
      · exact .inl h
      · exact .inr (.inr h)
/-- the n-th one comes first -/
def pull : Nat → List Thing → List Thing
  | 0, L => L
  | n + 1, t :: L => match pull n L with
    | [] => t :: L
    | u :: M => u :: t :: M
  | _ + 1, [] => []
theorem Things.pull {S : Nat → Prop} {W w : World} : ∀ (n : Nat) {L : List Thing} {all : Nat → Prop}, Things S W w L all → Things S W w (pull n L) all
  | 0, L, _, h => by simpa [Go.Proofs.Ytkjnpjkfagdegaa.pull] using h
  | n + 1, [], _, h => by simpa [Go.Proofs.Ytkjnpjkfagdegaa.pull] using h
  | n + 1, t :: L, all, h => by
    obtain ⟨fp, rest, h1, h2, h3⟩ := h
    have h2' := Things.pull n h2
    unfold Go.Proofs.Ytkjnpjkfagdegaa.pull
    cases hp : Go.Proofs.Ytkjnpjkfagdegaa.pull n L with
    | nil => exact ⟨fp, rest, h1, h2, h3⟩
    | cons u M =>
      rw [hp] at h2'
      exact Things.swap ⟨fp, rest, h1, h2', h3⟩
theorem St.pull {S : Nat → Prop} {W w : World} {L : List Thing} (n : Nat) (h : St S W w L) : St S W w (pull n L) := ⟨h.turn, let ⟨all, ht⟩ := h.things; ⟨all, ht.pull n⟩⟩
/-- what the first one says -/
theorem St.head {S : Nat → Prop} {W w : World} {t : Thing} {L : List Thing} (h : St S W w (t :: L)) : ∃ fp, t.holds w fp := by
  obtain ⟨_, _, fp, _, h1, _⟩ := h; exact ⟨fp, h1⟩
/-- the first one told otherwise -/
theorem St.tell {S : Nat → Prop} {W w : World} {t t' : Thing} {L : List Thing} (h : St S W w (t :: L)) (ht : ∀ fp, t.holds w fp → t'.holds w fp) : St S W w (t' :: L) := by
  obtain ⟨hm, all, fp, rest, h1, h2⟩ := h; exact ⟨hm, all, fp, rest, ht fp h1, h2⟩
theorem St.ends {W w : World} {L : List Thing} (h : St noB W w L) : Ext W w := h.turn

/-- a block of cells, known whole -/
def blkT (b : Nat) (c : Array Value) (t : TypeId) : Thing where
  holds w fp := w.heap[b]? = some (.cells c t (0, 0)) ∧ fp = fun k => k = b
  keep h m hd := ⟨m.heap (hd _ (by rw [h.2])) h.1, h.2⟩
  lt h hk := by rw [h.2] at hk; cases hk; exact lt_of_block h.1
theorem St.blk {S : Nat → Prop} {W w : World} {b : Nat} {c : Array Value} {t : TypeId} {L : List Thing} (h : St S W w (blkT b c t :: L)) : w.heap[b]? = some (.cells c t (0, 0)) := by
  obtain ⟨fp, h1, _⟩ := h.head; exact h1
theorem St.alloc {S : Nat → Prop} {W w : World} {L : List Thing} (h : St S W w L) (c : Array Value) (t : TypeId) : St S W (w.alloc (.cells c t)) (blkT w.heap.size c t :: L) :=
  h.add ((Mut.refl _ _).alloc _) ⟨_, ⟨heap_alloc_self _ _, rfl⟩, fun k hk => by cases hk; exact Nat.le_refl _⟩
theorem St.set {S : Nat → Prop} {W w : World} {b : Nat} {c : Array Value} {t : TypeId} {L : List Thing} (h : St S W w (blkT b c t :: L)) (i : Nat) (v : Value) : St S W (w.setCell ⟨b, i, none⟩ v) (blkT b (c.setIfInBounds i v) t :: L) :=
  h.upd (fun fp h1 => ⟨fp, ⟨heap_setCell h1.1 i v, h1.2⟩, by rw [h1.2]; exact Mut.one_set b i v, fun k hk => .inl hk⟩)
theorem Mut.setRow {w : World} (b : Nat) (c : Array Value) : Mut (oneB b) w (w.setRow b c) := ⟨rfl, rfl, rfl, by simp, fun k _ hk => setRow_other w b k c hk⟩
theorem St.row {S : Nat → Prop} {W w : World} {b : Nat} {c : Array Value} {t : TypeId} {L : List Thing} (h : St S W w (blkT b c t :: L)) (c' : Array Value) : St S W (w.setRow b c') (blkT b c' t :: L) :=
  h.upd (fun fp h1 => ⟨fp, ⟨setRow_heap w b c c' t (0, 0) h1.1, h1.2⟩, by rw [h1.2]; exact Mut.setRow b c', fun k hk => .inl hk⟩)
/-- a slice that owns its row -/
def ownT (e : TypeId) (size : Nat) (v : Value) (n : Nat) (xs : List Value) : Thing where
  holds w fp := Own w e size v n xs ∧ fp = ownS v
  keep h m hd := ⟨h.1.keep m (fun k hk => hd k (by rw [h.2]; exact hk)), h.2⟩
  lt h hk := by rw [h.2] at hk; exact h.1.lt _ hk
theorem St.own {S : Nat → Prop} {W w : World} {e : TypeId} {size : Nat} {v : Value} {n : Nat} {xs : List Value} {L : List Thing} (h : St S W w (ownT e size v n xs :: L)) : Own w e size v n xs := by
  obtain ⟨fp, h1, _⟩ := h.head; exact h1
theorem St.nilOwn {S : Nat → Prop} {W w : World} {L : List Thing} (h : St S W w L) (e : TypeId) (size : Nat) : St S W w (ownT e size (.slice none 0 0) 0 [] :: L) :=
  h.add (Mut.refl _ _) ⟨_, ⟨Own.nil _ _ _, rfl⟩, fun k hk => by cases hk⟩
/-- behind an append -/
theorem St.appended {S : Nat → Prop} {W w w' : World} {e : TypeId} {size : Nat} {v v' : Value} {n m : Nat} {xs ys : List Value} {L : List Thing} (h : St S W w (ownT e size v n xs :: L))
    (ho : Own w' e size v' m ys) (hm : Mut (ownS v) w w') (hv : Moved w v v') : St S W w' (ownT e size v' m ys :: L) :=
  h.upd (fun fp h1 => ⟨ownS v', ⟨ho, rfl⟩, by rw [h1.2]; exact hm, fun k hk => by
    rw [h1.2]
    rcases hv with h | ⟨j, h, hj⟩
    · left; show v.ownBlock = some k; rw [← h]; exact hk
    · right; have hk' : v'.ownBlock = some k := hk
      rw [h] at hk'; cases hk'; exact hj⟩)
theorem Own.slice {w : World} {e : TypeId} {size : Nat} {v : Value} {n : Nat} {xs : List Value} (h : Own w e size v n xs) (hn : 0 < n) : ∃ g cap, v = .slice (some ⟨g, 0, none⟩) n cap ∧ g < w.heap.size ∧ n ≤ cap ∧ cap ≤ maxLen := by
  rcases h.2 with ⟨rfl, h0⟩ | ⟨g, cap, cur, rfl, _, hh, hc, hm, _⟩
  · omega
  · exact ⟨g, cap, rfl, lt_of_block hh, hc, hm⟩
theorem Own.cell {w : World} {e : TypeId} {size g n cap : Nat} {xs : List Value} (h : Own w e size (.slice (some ⟨g, 0, none⟩) n cap) n xs) (j : Nat) (hj : j < n * size) : w.cell? ⟨g, j, none⟩ = xs[j]? := World.ownsRow.cellAt h j hj
theorem Own.free {w : World} {e : TypeId} {size g n cap : Nat} {xs : List Value} (h : Own w e size (.slice (some ⟨g, 0, none⟩) n cap) n xs) (j : Nat) : w.frozen? ⟨g, j, none⟩ = false := World.ownsRow.frozenAt h j
theorem St.stored {S : Nat → Prop} {W w : World} {e : TypeId} {size g n cap : Nat} {xs : List Value} {L : List Thing} (h : St S W w (ownT e size (.slice (some ⟨g, 0, none⟩) n cap) n xs :: L)) (j : Nat) (u : Value) :
    St S W (w.setCell ⟨g, j, none⟩ u) (ownT e size (.slice (some ⟨g, 0, none⟩) n cap) n (xs.set j u) :: L) :=
  h.upd (fun fp h1 => ⟨fp, ⟨(World.ownsRow.stored h1.1 j u).1, h1.2⟩, by rw [h1.2]; exact (Mut.one_set g j u).mono (fun i _ hi => by have : i = g := hi; subst this; rfl), fun k hk => .inl hk⟩)
/-- a slice that was made: a new row -/
theorem St.made {S : Nat → Prop} {W w : World} {L : List Thing} (h : St S W w L) (e : TypeId) (size n cap : Nat) (c : Array Value) (hn : n ≤ cap) (hc : cap ≤ maxLen) (hs : c.size = cap * size) :
    St S W (w.alloc (.cells c e)) (ownT e size (.slice (some ⟨w.heap.size, 0, none⟩) n cap) n (c.toList.take (n * size)) :: L) :=
  h.add ((Mut.refl _ _).alloc _) ⟨_, ⟨⟨by rw [List.length_take, Array.length_toList, hs]; exact Nat.min_eq_left (Nat.mul_le_mul_right _ hn), .inr ⟨w.heap.size, cap, c, rfl, Nat.zero_le _, heap_alloc_self _ _, hn, hc, hs, rfl⟩⟩, rfl⟩, fun k hk => by cases hk; exact Nat.le_refl _⟩
end Go.Proofs.Ytkjnpjkfagdegaa
