/- Things put together of things. -/
import Derived.Test.YtkjnpjkfagdegaaSt
namespace Go.Proofs.Ytkjnpjkfagdegaa
open Go.RowKit
set_option linter.unusedVariables false

theorem Things.any {S R : Nat → Prop} {W V w : World} : ∀ {L : List Thing} {all : Nat → Prop}, Things S W w L all → (∀ k, all k → R k ∨ V.heap.size ≤ k) → Things R V w L all
  | [], _, h, _ => h
  | t :: L, all, ⟨fp, rest, h1, h2, h3, h4, h5⟩, hR =>
    ⟨fp, rest, h1, Things.any h2 (fun k hk => hR k ((h4 k).2 (.inr hk))), h3, h4, fun k hk => hR k ((h4 k).2 (.inl hk))⟩
theorem Things.within {S : Nat → Prop} {W w : World} : ∀ {L : List Thing} {all : Nat → Prop}, Things S W w L all → ∀ k, all k → S k ∨ W.heap.size ≤ k
  | [], _, h, k, hk => (h k hk).elim
  | t :: L, all, ⟨fp, rest, h1, h2, h3, h4, h5⟩, k, hk => by
    rcases (h4 k).1 hk with h | h
    · exact h5 k h
    · exact Things.within h2 k h
theorem Things.append {S : Nat → Prop} {W w : World} : ∀ {L M : List Thing} {p q : Nat → Prop}, Things S W w L p → Things S W w M q → (∀ k, p k → ¬ q k) → Things S W w (L ++ M) (fun k => p k ∨ q k)
  | [], M, p, q, hp, hq, hd => by
    have : (fun k => p k ∨ q k) = q := by funext k; simp [hp k]
    rw [this]; exact hq
  | t :: L, M, p, q, ⟨fp, rest, h1, h2, h3, h4, h5⟩, hq, hd =>
    ⟨fp, fun k => rest k ∨ q k, h1, Things.append h2 hq (fun k hk => hd k ((h4 k).2 (.inr hk))), fun k hk hr => by
      rcases hr with hr | hr
      · exact h3 k hk hr
      · exact hd k ((h4 k).2 (.inl hk)) hr, fun k => by show p k ∨ q k ↔ fp k ∨ (rest k ∨ q k); rw [h4, or_assoc], h5⟩
theorem Things.split {S : Nat → Prop} {W w : World} : ∀ {L M : List Thing} {all : Nat → Prop}, Things S W w (L ++ M) all → ∃ p q, Things S W w L p ∧ Things S W w M q ∧ (∀ k, p k → ¬ q k) ∧ (∀ k, all k ↔ p k ∨ q k)
  | [], M, all, h => ⟨fun _ => False, all, fun _ f => f, h, fun _ f => f.elim, fun k => by simp⟩
  | t :: L, M, all, ⟨fp, rest, h1, h2, h3, h4, h5⟩ => by
    obtain ⟨p, q, g1, g2, g3, g4⟩ := Things.split h2
    refine ⟨fun k => fp k ∨ p k, q, ⟨fp, p, h1, g1, fun k hk hp => h3 k hk ((g4 k).2 (.inl hp)), fun k => Iff.rfl, h5⟩, g2, ?_, ?_⟩
    · rintro k (hk | hk) hq
      · exact h3 k hk ((g4 k).2 (.inr hq))
      · exact g3 k hk hq
    · intro k; rw [h4, g4, or_assoc]
theorem Things.ext_all {S : Nat → Prop} {W w : World} {L : List Thing} {p q : Nat → Prop} (h : Things S W w L p) (e : ∀ k, q k ↔ p k) : Things S W w L q := by
  have : q = p := by funext k; exact propext (e k)
  rw [this]; exact h
/-- a row and a block are two -/
theorem St.ne {S : Nat → Prop} {W w : World} {e : TypeId} {size g n m cap b : Nat} {xs : List Value} {c : Array Value} {t : TypeId} {L : List Thing} (h : St S W w (ownT e size (.slice (some ⟨g, 0, none⟩) n cap) m xs :: blkT b c t :: L)) : g ≠ b := by
  obtain ⟨hm, all, fp, rest, ⟨_, rfl⟩, ⟨fp2, rest2, ⟨_, rfl⟩, _, _, g4, _⟩, h3, _⟩ := h
  intro e
  exact h3 g rfl ((g4 g).2 (.inl e))
/-- one thing that is some list of things -/
def allT {α : Type} (f : α → List Thing) : Thing where
  holds w fp := ∃ a, Things (fun _ => True) w w (f a) fp
  keep h m hd := by
    obtain ⟨a, h⟩ := h
    exact ⟨a, (h.keep m hd).any (fun k _ => .inl trivial)⟩
  lt h hk := by
    obtain ⟨a, h⟩ := h
    exact h.lt _ hk
theorem St.open {α : Type} {f : α → List Thing} {S : Nat → Prop} {W w : World} {L : List Thing} (h : St S W w (allT f :: L)) : ∃ a, St S W w (f a ++ L) := by
  obtain ⟨hm, all, fp, rest, ⟨a, h1⟩, h2, h3, h4, h5⟩ := h
  exact ⟨a, hm, _, (h1.any (fun k hk => h5 k hk)).append h2 h3⟩
theorem St.close {α : Type} {f : α → List Thing} {S : Nat → Prop} {W w : World} {L : List Thing} (a : α) (h : St S W w (f a ++ L)) : St S W w (allT f :: L) := by
  obtain ⟨hm, all, h⟩ := h
  obtain ⟨p, q, g1, g2, g3, g4⟩ := h.split
  exact ⟨hm, all, p, q, ⟨a, g1.any (fun _ _ => .inl trivial)⟩, g2, g3, g4, g1.within⟩
end Go.Proofs.Ytkjnpjkfagdegaa
