/- Slices that came in, as lists: what a row's reading says of their cells. -/
import Derived.Test.YtkjnpjkfagdegaaBytes
import Derived.Test.YtkjnpjkfagdegaaRow
import Derived.Deep.Slices
import Derived.Deep.Fields
import Derived.ChangeSame
namespace Go.Proofs.Ytkjnpjkfagdegaa
open Go.RowKit Go.ChangeShapes Go.WideShapes Go.Deep
set_option linter.unusedVariables false

/-- 'len' elements from A on, each of 'size' cells: the list l -/
def ArgRow {α : Type} (rep : α → List Value → Prop) (size : Nat) (w : World) (A : Option Addr) (len : Nat) (l : List α) : Prop :=
  l.length = len ∧ (len = 0 ∨ ∃ b off, A = some ⟨b, off, none⟩ ∧ ∀ i a, l[i]? = some a → ∃ cs, rep a cs ∧ cs.length = size ∧ ∀ j v, cs[j]? = some v → w.cell? ⟨b, off + (i * size + j), none⟩ = some v)
theorem ArgRow.ext {α : Type} {rep : α → List Value → Prop} {size : Nat} {w w' : World} {A : Option Addr} {len : Nat} {l : List α} (h : ArgRow rep size w A len l) (x : Ext w w') : ArgRow rep size w' A len l := by
  refine ⟨h.1, ?_⟩
  rcases h.2 with h2 | ⟨b, off, hA, hc⟩
  · exact .inl h2
  · refine .inr ⟨b, off, hA, fun i a hi => ?_⟩
    obtain ⟨cs, h1, h2, h3⟩ := hc i a hi
    exact ⟨cs, h1, h2, fun j v hj => x.cell (h3 j v hj)⟩
theorem ArgRow.keep {α : Type} {rep : α → List Value → Prop} {size : Nat} {S : Nat → Prop} {w w' : World} {A : Option Addr} {len : Nat} {l : List α} (h : ArgRow rep size w A len l) (x : Mut S w w') (hS : ∀ b off, A = some ⟨b, off, none⟩ → ¬ S b) : ArgRow rep size w' A len l := by
  refine ⟨h.1, ?_⟩
  rcases h.2 with h2 | ⟨b, off, hA, hc⟩
  · exact .inl h2
  · refine .inr ⟨b, off, hA, fun i a hi => ?_⟩
    obtain ⟨cs, h1, h2, h3⟩ := hc i a hi
    exact ⟨cs, h1, h2, fun j v hj => x.cell (p := ⟨b, off + (i * size + j), none⟩) (hS b off hA) (h3 j v hj)⟩
theorem ArgRow.map {α β : Type} {rep : α → List Value → Prop} {rep' : β → List Value → Prop} {size : Nat} {w : World} {A : Option Addr} {len : Nat} {l : List α} (h : ArgRow rep size w A len l) (f : α → β) (hf : ∀ a cs, rep a cs → rep' (f a) cs) : ArgRow rep' size w A len (l.map f) := by
  refine ⟨by simpa using h.1, ?_⟩
  rcases h.2 with h2 | ⟨b, off, hA, hc⟩
  · exact .inl h2
  · refine .inr ⟨b, off, hA, fun i a hi => ?_⟩
    rw [List.getElem?_map] at hi
    obtain ⟨x, hx, rfl⟩ := Option.map_eq_some_iff.1 hi
    obtain ⟨cs, h1, h2, h3⟩ := hc i x hx
    exact ⟨cs, hf _ _ h1, h2, h3⟩

theorem World.cell?_spot' {w : World} {b off : Nat} {spot : Option Nat} {v : Value} (h : w.cell? ⟨b, off, spot⟩ = some v) : spot = none := by
  unfold World.cell? at h
  split at h
  · cases spot with
    | none => rfl
    | some x => simp at h
  · cases h
section
variable {H : Type} {enc : TypeId × Value → H} {P : Program} {w : World} {base : Nat} {spare : Nat → Bool} {held : Bool}
/-- a slice that came in, by what its elements read as -/
theorem arg_of_trod {α : Type} (rep : α → List Value → Prop) (size : Nat) {t e : TypeId} {fuel : Nat} {A : Option Addr} {len cap : Nat} {x : DataW H × List MemPlace}
    (ht : P.underlying t = some (.slice e)) (hsz : P.cellsOf e = size) (hpos : 0 < size)
    (hrep : ∀ (n : Nat) (cs : List Value) (y : DataW H × List MemPlace), cs.length = size → DataW.trod enc P w base spare held n e cs = some y → ∃ a, rep a cs)
    (h : DataW.trod enc P w base spare held fuel t [.slice A len cap] = some x) : ∃ l, ArgRow rep size w A len l ∧ len ≤ 9223372036854775807 := by
  rcases open_slice ht h with ⟨hcs, _⟩ | ⟨a, len', cap', m, n, D, Pl, hcs, hb, hl, hm, hmm, hx, hi⟩
  · simp at hcs
    obtain ⟨rfl, rfl, rfl⟩ := hcs
    exact ⟨[], ⟨rfl, .inl rfl⟩, by omega⟩
  · simp at hcs
    obtain ⟨rfl, rfl, rfl⟩ := hcs
    have hml : len ≤ m := by rw [hmm]; split <;> omega
    have hone : ∀ i, i < len → ∃ a' cs, rep a' cs ∧ cs.length = size ∧ ∀ j v, cs[j]? = some v → w.cell? ((a.add (i * size)).add j) = some v := by
      intro i hil
      obtain ⟨cs', hc, ht'⟩ := hi i (by omega)
      rw [hsz] at hc
      obtain ⟨_, hcl, hat⟩ := World.cells?_some hc
      obtain ⟨a', ha'⟩ := hrep n cs' _ hcl ht'
      refine ⟨a', cs', ha', hcl, fun j v hj => ?_⟩
      have hjl : j < size := by
        rcases Nat.lt_or_ge j cs'.length with h | h
        · omega
        · rw [List.getElem?_eq_none h] at hj; cases hj
      rw [hat j hjl]; exact hj
    have hlist : ∀ k, k ≤ len → ∃ l : List α, l.length = k ∧ ∀ i a', l[i]? = some a' → ∃ cs, rep a' cs ∧ cs.length = size ∧ ∀ j v, cs[j]? = some v → w.cell? ((a.add (i * size)).add j) = some v := by
      intro k
      induction k with
      | zero => exact fun _ => ⟨[], rfl, fun i a' hi => by simp at hi⟩
      | succ k ih =>
        intro hk
        obtain ⟨l, hl1, hl2⟩ := ih (by omega)
        obtain ⟨a', cs, h1, h2, h3⟩ := hone k (by omega)
        refine ⟨l ++ [a'], by simp [hl1], fun i b hi => ?_⟩
        rcases Nat.lt_or_ge i k with hik | hik
        · rw [List.getElem?_append_left (by omega)] at hi; exact hl2 i b hi
        · rw [List.getElem?_append_right (by omega)] at hi
          have : i = k := by
            rcases Nat.lt_or_ge (i - l.length) 1 with h | h
            · omega
            · rw [List.getElem?_eq_none (by simpa using h)] at hi; cases hi
          subst this
          rw [hl1, Nat.sub_self] at hi
          simp at hi
          subst hi
          exact ⟨cs, h1, h2, h3⟩
    obtain ⟨l, hl1, hl2⟩ := hlist len (Nat.le_refl _)
    refine ⟨l, ⟨hl1, ?_⟩, by unfold maxLen at hm; omega⟩
    rcases Nat.eq_zero_or_pos len with h0 | h0
    · exact .inl h0
    · right
      obtain ⟨b, off, spot⟩ := a
      have hspot : spot = none := by
        obtain ⟨cs, h1, h2, h3⟩ := hl2 0 l[0] (List.getElem?_eq_getElem (by omega))
        have h4 := h3 0 cs[0] (List.getElem?_eq_getElem (by omega))
        rw [Nat.zero_mul] at h4
        exact World.cell?_spot' (w := w) (b := b) (off := off) (by simpa [Addr.add] using h4)
      subst hspot
      refine ⟨b, off, rfl, fun i a' hi => ?_⟩
      obtain ⟨cs, h1, h2, h3⟩ := hl2 i a' hi
      refine ⟨cs, h1, h2, fun j v hj => ?_⟩
      have h4 := h3 j v hj
      rw [Go.WideShapes.add_plain, Go.WideShapes.add_plain, Nat.add_assoc] at h4
      exact h4
/-- a struct's cells, each read by its field's type -/
theorem cells_of_struct {t : TypeId} {fs : Array Field} {fuel : Nat} {cs : List Value} {x : DataW H × List MemPlace} (ht : P.underlying t = some (.struct fs)) (hone : oneCellFields P fs = true) (hC : P.cellsOf t = fs.size)
    (h : DataW.trod enc P w base spare held fuel t cs = some x) : cs.length = fs.size ∧ ∀ (j : Nat) (f : Field), fs[j]? = some f → ∃ v y n, cs[j]? = some v ∧ DataW.trod enc P w base spare held n f.type [v] = some y := by
  obtain ⟨ys, n, _, hx, hlen, hyl, hf⟩ := DataW.trod_struct ht h
  rw [hC] at hlen
  refine ⟨hlen, fun j f hj => ?_⟩
  obtain ⟨ho, hk⟩ := hone_of hone j f hj
  have hjl : j < fs.size := (Array.getElem?_eq_some_iff.1 hj).1
  have h1 := hf j f hj
  rw [ho, hk] at h1
  have hone' : (cs.drop j).take 1 = [cs[j]'(by omega)] := by
    rw [List.drop_eq_getElem_cons (by omega)]
    rfl
  rw [hone'] at h1
  have hys : ys[j]? = some (ys[j]'(by omega)) := List.getElem?_eq_getElem (by omega)
  exact ⟨_, _, n, List.getElem?_eq_getElem (by omega), h1.trans hys⟩
end
/-- elements of one cell -/
def repU (k : IntKind) (B : Nat) (n : Nat) (cs : List Value) : Prop := cs = [.int k n] ∧ n < B
def repI (k : IntKind) (lo hi : Int) (n : Int) (cs : List Value) : Prop := cs = [.int k n] ∧ lo ≤ n ∧ n < hi
def repS (s : ByteArray) (cs : List Value) : Prop := cs = [.string s] ∧ s.size ≤ maxLen
section
variable {H : Type} {enc : TypeId × Value → H} {P : Program} {w : World} {base : Nat} {spare : Nat → Bool} {held : Bool}
theorem repU_u64 {e : TypeId} (he : P.underlying e = some (.int .u64)) (n : Nat) (cs : List Value) (y : DataW H × List MemPlace) (_ : cs.length = 1) (h : DataW.trod enc P w base spare held n e cs = some y) : ∃ a, repU .u64 18446744073709551616 a cs := by
  obtain ⟨v, rfl, _, hw⟩ := DataW.trod_int he h
  obtain ⟨m, rfl, hm⟩ := wf_u64 hw
  exact ⟨m, rfl, hm⟩
theorem repU_u32 {e : TypeId} (he : P.underlying e = some (.int .u32)) (n : Nat) (cs : List Value) (y : DataW H × List MemPlace) (_ : cs.length = 1) (h : DataW.trod enc P w base spare held n e cs = some y) : ∃ a, repU .u32 4294967296 a cs := by
  obtain ⟨v, rfl, _, hw⟩ := DataW.trod_int he h
  obtain ⟨m, rfl, hm⟩ := wf_u32 hw
  exact ⟨m, rfl, hm⟩
theorem repU_u8 {e : TypeId} (he : P.underlying e = some (.int .u8)) (n : Nat) (cs : List Value) (y : DataW H × List MemPlace) (_ : cs.length = 1) (h : DataW.trod enc P w base spare held n e cs = some y) : ∃ a, repU .u8 256 a cs := by
  obtain ⟨v, rfl, _, hw⟩ := DataW.trod_int he h
  obtain ⟨m, rfl, hm⟩ := wf_u8 hw
  exact ⟨m, rfl, hm⟩
theorem repI_i64 {e : TypeId} (he : P.underlying e = some (.int .i64)) (n : Nat) (cs : List Value) (y : DataW H × List MemPlace) (_ : cs.length = 1) (h : DataW.trod enc P w base spare held n e cs = some y) : ∃ a, repI .i64 (-9223372036854775808) 9223372036854775808 a cs := by
  obtain ⟨v, rfl, _, hw⟩ := DataW.trod_int he h
  exact ⟨v, rfl, wf_i64 hw⟩
theorem repI_i8 {e : TypeId} (he : P.underlying e = some (.int .i8)) (n : Nat) (cs : List Value) (y : DataW H × List MemPlace) (_ : cs.length = 1) (h : DataW.trod enc P w base spare held n e cs = some y) : ∃ a, repI .i8 (-128) 128 a cs := by
  obtain ⟨v, rfl, _, hw⟩ := DataW.trod_int he h
  exact ⟨v, rfl, wf_i8 hw⟩
theorem repS_str {e : TypeId} (he : P.underlying e = some .string) (n : Nat) (cs : List Value) (y : DataW H × List MemPlace) (_ : cs.length = 1) (h : DataW.trod enc P w base spare held n e cs = some y) : ∃ a, repS a cs := by
  obtain ⟨s, rfl, _, hw⟩ := DataW.trod_string he h
  exact ⟨s, rfl, hw⟩
end
/-- element i of a slice of numbers that came in -/
theorem ArgRow.getU {k : IntKind} {B : Nat} {w : World} {A : Option Addr} {len : Nat} {l : List Nat} (h : ArgRow (repU k B) 1 w A len l) (i : Nat) (hi : i < len) : ∃ b off, A = some ⟨b, off, none⟩ ∧ w.cell? ⟨b, off + i, none⟩ = some (.int k (l.getD i 0 : Nat)) ∧ l.getD i 0 < B := by
  rcases h.2 with h2 | ⟨b, off, hA, hc⟩
  · omega
  · have hl : i < l.length := by rw [h.1]; exact hi
    obtain ⟨cs, ⟨rfl, hB⟩, h2, h3⟩ := hc i l[i] (List.getElem?_eq_getElem hl)
    have h4 := h3 0 _ rfl
    have hg : l.getD i 0 = l[i] := by rw [List.getD_eq_getElem?_getD, List.getElem?_eq_getElem hl]; rfl
    rw [hg]
    exact ⟨b, off, hA, by simpa using h4, hB⟩
theorem ArgRow.getI {k : IntKind} {lo hi' : Int} {w : World} {A : Option Addr} {len : Nat} {l : List Int} (h : ArgRow (repI k lo hi') 1 w A len l) (i : Nat) (hi : i < len) : ∃ b off, A = some ⟨b, off, none⟩ ∧ w.cell? ⟨b, off + i, none⟩ = some (.int k (l.getD i 0)) ∧ lo ≤ l.getD i 0 ∧ l.getD i 0 < hi' := by
  rcases h.2 with h2 | ⟨b, off, hA, hc⟩
  · omega
  · have hl : i < l.length := by rw [h.1]; exact hi
    obtain ⟨cs, ⟨rfl, hB⟩, h2, h3⟩ := hc i l[i] (List.getElem?_eq_getElem hl)
    have h4 := h3 0 _ rfl
    have hg : l.getD i 0 = l[i] := by rw [List.getD_eq_getElem?_getD, List.getElem?_eq_getElem hl]; rfl
    rw [hg]
    exact ⟨b, off, hA, by simpa using h4, hB⟩
theorem ArgRow.getS {w : World} {A : Option Addr} {len : Nat} {l : List ByteArray} (h : ArgRow repS 1 w A len l) (i : Nat) (hi : i < len) : ∃ b off, A = some ⟨b, off, none⟩ ∧ w.cell? ⟨b, off + i, none⟩ = some (.string (l.getD i ByteArray.empty)) ∧ (l.getD i ByteArray.empty).size ≤ maxLen := by
  rcases h.2 with h2 | ⟨b, off, hA, hc⟩
  · omega
  · have hl : i < l.length := by rw [h.1]; exact hi
    obtain ⟨cs, ⟨rfl, hB⟩, h2, h3⟩ := hc i l[i] (List.getElem?_eq_getElem hl)
    have h4 := h3 0 _ rfl
    have hg : l.getD i ByteArray.empty = l[i] := by rw [List.getD_eq_getElem?_getD, List.getElem?_eq_getElem hl]; rfl
    rw [hg]
    exact ⟨b, off, hA, by simpa using h4, hB⟩
theorem ArgRow.getU1 {k : IntKind} {B : Nat} {w : World} {b off : Nat} {len : Nat} {l : List Nat} (h : ArgRow (repU k B) 1 w (some ⟨b, off, none⟩) len l) (i : Nat) (hi : i < len) : w.cell? ⟨b, off + i, none⟩ = some (.int k (l.getD i 0 : Nat)) := by
  obtain ⟨b', off', e, h1, _⟩ := h.getU i hi
  cases e; exact h1
theorem ArgRow.getI1 {k : IntKind} {lo hi' : Int} {w : World} {b off : Nat} {len : Nat} {l : List Int} (h : ArgRow (repI k lo hi') 1 w (some ⟨b, off, none⟩) len l) (i : Nat) (hi : i < len) : w.cell? ⟨b, off + i, none⟩ = some (.int k (l.getD i 0)) := by
  obtain ⟨b', off', e, h1, _⟩ := h.getI i hi
  cases e; exact h1
theorem ArgRow.getS1 {w : World} {b off : Nat} {len : Nat} {l : List ByteArray} (h : ArgRow repS 1 w (some ⟨b, off, none⟩) len l) (i : Nat) (hi : i < len) : w.cell? ⟨b, off + i, none⟩ = some (.string (l.getD i ByteArray.empty)) := by
  obtain ⟨b', off', e, h1, _⟩ := h.getS i hi
  cases e; exact h1
end Go.Proofs.Ytkjnpjkfagdegaa
