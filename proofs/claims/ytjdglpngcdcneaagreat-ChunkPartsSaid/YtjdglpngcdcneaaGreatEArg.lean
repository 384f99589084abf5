/- Layer 21: events as an argument. -/
import Derived.Test.YtjdglpngcdcneaaGreatEAwk2
import Derived.Deep.Fields
namespace Go.Proofs.YtjdglpngcdcneaaGreat
open Go.RowKit Go.WideShapes Go.ChangeShapes Go.Deep
set_option linter.unusedVariables false
set_option linter.unusedSimpArgs false
set_option linter.unusedSectionVars false
def repEv (o : Ev) (cs : List Value) : Prop := cs = evC o ∧ EvOK o
theorem repEv_of {H : Type} {enc : TypeId × Value → H} {w : World} {base : Nat} {spare : Nat → Bool} {held : Bool} (n : Nat) (cs : List Value) (y : DataW H × List MemPlace) (_ : cs.length = 5) (h : DataW.trod enc Tryz.prog w base spare held n 36 cs = some y) : ∃ a, repEv a cs := by
  obtain ⟨hl, hf⟩ := cells_of_struct Tryz.underlying36 (by kernel_rfl) (by kernel_rfl) h
  obtain ⟨v0, y0, n0, e0, t0⟩ := hf 0 _ rfl
  obtain ⟨v1, y1, n1, e1, t1⟩ := hf 1 _ rfl
  obtain ⟨v2, y2, n2, e2, t2⟩ := hf 2 _ rfl
  obtain ⟨v3, y3, n3, e3, t3⟩ := hf 3 _ rfl
  obtain ⟨v4, y4, n4, e4, t4⟩ := hf 4 _ rfl
  obtain ⟨a0, h0, _, k0⟩ := DataW.trod_int Tryz.underlying3 t0
  obtain ⟨a1, h1, _, k1⟩ := DataW.trod_int Tryz.underlying3 t1
  obtain ⟨a2, h2, _, k2⟩ := DataW.trod_int Tryz.underlying3 t2
  obtain ⟨a3, h3, _, k3⟩ := DataW.trod_int Tryz.underlying34 t3
  obtain ⟨a4, h4, _, k4⟩ := DataW.trod_int Tryz.underlying34 t4
  simp at h0 h1 h2 h3 h4
  subst h0 h1 h2 h3 h4
  have j0 := wf_i64 k0
  have j1 := wf_i64 k1
  have j2 := wf_i64 k2
  obtain ⟨b3, rfl, j3⟩ := wf_u64 k3
  obtain ⟨b4, rfl, j4⟩ := wf_u64 k4
  match cs, hl with
  | [c0, c1, c2, c3, c4], _ =>
    simp at e0 e1 e2 e3 e4
    subst e0 e1 e2 e3 e4
    exact ⟨⟨a0, a1, a2, b3, b4⟩, rfl, j0, j1, j2, j3, j4⟩
theorem ArgRow.erow {w : World} {A : Option Addr} {len : Nat} {p : List Ev} (h : ArgRow repEv 5 w A len p) : ERow w A p := by
  intro i hi
  rcases h.2 with h2 | ⟨b, off, hA, hc⟩
  · have := h.1; omega
  · obtain ⟨cs, ⟨rfl, _⟩, h2, h3⟩ := hc i p[i] (List.getElem?_eq_getElem hi)
    have hg : p.getD i default = p[i] := by rw [List.getD_eq_getElem?_getD, List.getElem?_eq_getElem hi]; rfl
    rw [hg]
    exact ⟨b, off, hA, by simpa using h3 0 _ rfl, by simpa [Nat.add_assoc] using h3 1 _ rfl, by simpa [Nat.add_assoc] using h3 2 _ rfl, by simpa [Nat.add_assoc] using h3 3 _ rfl, by simpa [Nat.add_assoc] using h3 4 _ rfl⟩
theorem ArgRow.evok {w : World} {A : Option Addr} {len : Nat} {p : List Ev} (h : ArgRow repEv 5 w A len p) : ∀ i, i < p.length → EvOK (p.getD i default) := by
  intro i hi
  rcases h.2 with h2 | ⟨b, off, hA, hc⟩
  · have := h.1; omega
  · obtain ⟨cs, ⟨rfl, h1⟩, _⟩ := hc i p[i] (List.getElem?_eq_getElem hi)
    have hg : p.getD i default = p[i] := by rw [List.getD_eq_getElem?_getD, List.getElem?_eq_getElem hi]; rfl
    rw [hg]; exact h1
end Go.Proofs.YtjdglpngcdcneaaGreat
