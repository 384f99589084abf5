/- Layer 1's writer among other things that a call holds. -/
import Derived.Test.YtkjnpjkfagdegaaSt
import Derived.Test.YtkjnpjkfagdegaaOct
import Derived.Test.YtkjnpjkfagdegaaWr
namespace Go.Proofs.Ytkjnpjkfagdegaa
open Go.RowKit
set_option linter.unusedVariables false

def wrT (b : Nat) (l : List UInt8) : Thing where
  holds w fp := ∃ v, Wr w b v l ∧ fp = wrS b v
  keep h m hd := by
    obtain ⟨v, h1, h2⟩ := h
    exact ⟨v, h1.keep m (hd _ (by rw [h2]; exact .inl rfl)) (fun k hk => hd k (by rw [h2]; exact .inr hk)), h2⟩
  lt h hk := by
    obtain ⟨v, h1, h2⟩ := h
    rw [h2] at hk
    rcases hk with hk | hk
    · cases hk; exact h1.lt
    · exact h1.own.lt _ hk
section
variable {S : Nat → Prop} {W w : World} {L : List Thing} {b : Nat} {s : ByteArray} {a : Nat} {l : List UInt8}
theorem St.newWr (h : St S W w L) : St S W (w.alloc (.cells #[.slice none 0 0] 49)) (wrT w.heap.size [] :: L) :=
  h.add ((Mut.refl _ _).alloc _) ⟨_, ⟨_, Wr.new w, rfl⟩, fun k hk => by rcases hk with hk | hk; cases hk; exact Nat.le_refl _; cases hk⟩
theorem St.wr (h : St S W w (wrT b l :: L)) : ∃ v, Wr w b v l := by obtain ⟨fp, v, h1, _⟩ := h.head; exact ⟨v, h1⟩
theorem St.wrTo {R : World → Prop} {P : Program} {f : FuncId} {args : Array Value} {l' : List UInt8} {v0 : Value} (h : St S W w (wrT b l :: L))
    (hc : ∀ v, Wr w b v l → Calls P f args w fun e w' => e = .returned v0 ∧ ∃ v', Wr w' b v' l' ∧ Moved w v v' ∧ Mut (wrS b v) w w') :
    Calls P f args w fun e w' => e = .returned v0 ∧ St S W w' (wrT b l' :: L) := by
  obtain ⟨hm, all, fp, rest, ⟨v, h1, h2⟩, hrest⟩ := h
  refine (hc v h1).mono ?_
  rintro e w' ⟨he, v', g1, g2, g3⟩
  refine ⟨he, ?_⟩
  have h0 : St S W w ((wrT b l) :: L) := ⟨hm, all, fp, rest, ⟨v, h1, h2⟩, hrest⟩
  -- the very footprint
  obtain ⟨k1, k2, k3, k4⟩ := hrest
  refine ⟨hm.trans' g3 (fun i hi hf => (k4 i (by rw [h2]; exact hf)).resolve_right (by omega)), fun k => wrS b v' k ∨ rest k, wrS b v', rest, ⟨v', g1, rfl⟩, k1.keep g3 (fun k hk hf => k2 k (by rw [h2]; exact hf) hk), ?_, fun k => Iff.rfl, ?_⟩
  · intro k hk hr
    rcases hk with hk | hk
    · exact k2 k (by rw [h2]; exact .inl hk) hr
    · rcases g2 with g | ⟨j, g, hj⟩
      · exact k2 k (by rw [h2]; exact .inr (by rw [← g]; exact hk)) hr
      · rw [g] at hk; cases hk; have := k1.lt k hr; omega
  · intro k hk
    rcases hk with hk | hk
    · exact k4 k (by rw [h2]; exact .inl hk)
    · rcases g2 with g | ⟨j, g, hj⟩
      · exact k4 k (by rw [h2]; exact .inr (by rw [← g]; exact hk))
      · rw [g] at hk; cases hk; have := hm.size; right; omega

theorem text_st (h : St S W w (wrT b l :: L)) (s : ByteArray) (hs : l.length + s.size ≤ 140737488355328) :
    Calls Try.prog 26 #[.pointer (some ⟨b, 0, none⟩), .string s] w fun e w' => e = .returned (.tuple #[]) ∧ St S W w' (wrT b (l ++ s.data.toList) :: L) :=
  h.wrTo (R := fun _ => True) (fun v hv => text_any hv s hs)
theorem str_st (h : St S W w (wrT b l :: L)) :
    Calls Try.prog 28 #[.pointer (some ⟨b, 0, none⟩)] w fun e w' => e = .returned (.string ⟨l.toArray⟩) ∧ w = w' := by
  obtain ⟨v, hv⟩ := h.wr; exact str_any hv
end
end Go.Proofs.Ytkjnpjkfagdegaa
