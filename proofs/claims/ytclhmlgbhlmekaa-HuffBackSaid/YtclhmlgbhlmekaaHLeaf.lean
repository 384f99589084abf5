/- Layer 7: the slices of the trees' bytes, by their numbers, as one thing. -/
import Derived.Test.YtclhmlgbhlmekaaHConc2
namespace Go.Proofs.Ytclhmlgbhlmekaa
open Go.RowKit Go.WideShapes
set_option linter.unusedVariables false
set_option linter.unusedSimpArgs false
/-- one entry is another one -/
def updA {α : Type} (t : Nat → α) (i : Nat) (v : α) : Nat → α := fun j => if j = i then v else t j
theorem updA_self {α : Type} (t : Nat → α) (i : Nat) (v : α) : updA t i v i = v := by unfold updA; rw [if_pos rfl]
theorem updA_ne {α : Type} (t : Nat → α) {i j : Nat} (v : α) (h : j ≠ i) : updA t i v j = t j := by unfold updA; rw [if_neg h]
/-- the first N slices hold these bytes -/
def lsT (N : Nat) (vs : Nat → Value) (ls : Nat → List UInt8) : Thing where
  holds w fp := (∀ k, k < N → Own w 5 1 (vs k) (ls k).length (bytesV (ls k))) ∧ fp = fun b => ∃ k, k < N ∧ (vs k).ownBlock = some b
  keep h m hd := ⟨fun k hk => (h.1 k hk).keep m (fun b hb => hd b (by rw [h.2]; exact ⟨k, hk, hb⟩)), h.2⟩
  lt h hb := by
    rw [h.2] at hb
    obtain ⟨k, hk, e⟩ := hb
    exact (h.1 k hk).lt _ e
section
variable {S : Nat → Prop} {W w : World} {L : List Thing}
theorem St.lsNil (h : St S W w L) (vs : Nat → Value) (ls : Nat → List UInt8) : St S W w (lsT 0 vs ls :: L) :=
  h.add (Mut.refl _ _) ⟨_, ⟨fun k hk => by omega, rfl⟩, fun k hk => by obtain ⟨j, hj, _⟩ := hk; omega⟩
theorem St.lsGet {N : Nat} {vs : Nat → Value} {ls : Nat → List UInt8} (h : St S W w (lsT N vs ls :: L)) (k : Nat) (hk : k < N) : Own w 5 1 (vs k) (ls k).length (bytesV (ls k)) := by
  obtain ⟨fp, h1, _⟩ := h.head; exact h1 k hk
theorem St.lsAdd {N : Nat} {vs : Nat → Value} {ls : Nat → List UInt8} {v : Value} {l : List UInt8} (h : St S W w (ownT 5 1 v l.length (bytesV l) :: lsT N vs ls :: L)) :
    St S W w (lsT (N + 1) (updA vs N v) (updA ls N l) :: L) := by
  obtain ⟨hm, all, fp, rest, ⟨o1, rfl⟩, ⟨fp2, rest2, ⟨o2, rfl⟩, g2, g3, g4, g5⟩, h3, h4, h5⟩ := h
  refine ⟨hm, all, (fun b => ∃ k, k < N + 1 ∧ (updA vs N v k).ownBlock = some b), rest2, ⟨fun k hk => ?_, rfl⟩, g2, ?_, fun k => ?_, ?_⟩
  · by_cases e : k = N
    · subst e; rw [updA_self, updA_self]; exact o1
    · rw [updA_ne _ _ e, updA_ne _ _ e]; exact o2 k (by omega)
  · rintro b ⟨k, hk, hb⟩ hr
    by_cases e : k = N
    · subst e; rw [updA_self] at hb; exact h3 b hb ((g4 b).2 (.inr hr))
    · rw [updA_ne _ _ e] at hb; exact g3 b ⟨k, by omega, hb⟩ hr
  · rw [h4, g4]
    constructor
    · rintro (h | ⟨j, hj, hb⟩ | h)
      · exact .inl ⟨N, by omega, by rw [updA_self]; exact h⟩
      · exact .inl ⟨j, by omega, by rw [updA_ne _ _ (by omega)]; exact hb⟩
      · exact .inr h
    · rintro (⟨j, hj, hb⟩ | h)
      · by_cases e : j = N
        · subst e; rw [updA_self] at hb; exact .inl hb
        · rw [updA_ne _ _ e] at hb; exact .inr (.inl ⟨j, by omega, hb⟩)
      · exact .inr (.inr h)
  · rintro b ⟨k, hk, hb⟩
    by_cases e : k = N
    · subst e; rw [updA_self] at hb; exact h5 b hb
    · rw [updA_ne _ _ e] at hb; exact g5 b ⟨k, by omega, hb⟩
theorem St.leaf {g : Nat} {x : UInt8} (h : St S W w (blkT g #[.int .u8 x.toNat] 5 :: L)) : St S W w (ownT 5 1 (.slice (some ⟨g, 0, none⟩) 1 1) 1 (bytesV [x]) :: L) := by
  refine h.tell (fun fp hf => ⟨⟨rfl, .inr ⟨g, 1, _, rfl, Nat.zero_le _, hf.1, ?_⟩⟩, ?_⟩)
  · exact ⟨by omega, by decide, rfl, by rfl⟩
  · rw [hf.2]
    funext k
    show (k = g) = (some g = some k)
    simp only [Option.some.injEq, eq_comm]
end
end Go.Proofs.Ytclhmlgbhlmekaa
