/- What a call may have turned: 'Mut S w w'': every block that was there, and is not in S, is as it was. Small laws on worlds. -/
import Derived.WalkKit
import Derived.WalkSpells
import Derived.WalkLawsBesides
import Derived.Lib.Hide
namespace Go.Proofs.Ytkjnpjkfagdegaa
open Go.RowKit

structure Mut (S : Nat → Prop) (w w' : World) : Prop where
  os : w'.os = w.os
  tape : w'.tape = w.tape
  output : w'.output = w.output
  size : w.heap.size ≤ w'.heap.size
  block : ∀ k, k < w.heap.size → ¬ S k → w'.heap[k]? = w.heap[k]?

/-- nothing that was there has turned -/
abbrev noB : Nat → Prop := fun _ => False
abbrev Ext (w w' : World) : Prop := Mut noB w w'

theorem Mut.refl (S : Nat → Prop) (w : World) : Mut S w w := ⟨rfl, rfl, rfl, Nat.le_refl _, fun _ _ _ => rfl⟩
theorem Mut.trans' {S T : Nat → Prop} {a b c : World} (h : Mut S a b) (k : Mut T b c) (hT : ∀ i, i < a.heap.size → T i → S i) : Mut S a c :=
  ⟨k.os.trans h.os, k.tape.trans h.tape, k.output.trans h.output, Nat.le_trans h.size k.size,
    fun i hi hS => (k.block i (Nat.lt_of_lt_of_le hi h.size) (fun ht => hS (hT i hi ht))).trans (h.block i hi hS)⟩
theorem Mut.trans {S : Nat → Prop} {a b c : World} (h : Mut S a b) (k : Mut S b c) : Mut S a c := h.trans' k (fun _ _ x => x)
theorem Mut.ext {S : Nat → Prop} {a b c : World} (h : Mut S a b) (k : Ext b c) : Mut S a c := h.trans' k (fun _ _ x => x.elim)
theorem Mut.mono {S T : Nat → Prop} {a b : World} (h : Mut S a b) (hT : ∀ i, i < a.heap.size → S i → T i) : Mut T a b :=
  ⟨h.os, h.tape, h.output, h.size, fun i hi hS => h.block i hi (fun x => hS (hT i hi x))⟩
theorem Mut.drew {S : Nat → Prop} {a w : World} (h : Mut S a w) : Mut S a w.drew := ⟨h.os, h.tape, h.output, h.size, h.block⟩
theorem Mut.drewN {S : Nat → Prop} {a w : World} (h : Mut S a w) (n : Nat) : Mut S a (w.drewN n) := ⟨h.os, h.tape, h.output, h.size, h.block⟩
theorem Mut.alloc {S : Nat → Prop} {a w : World} (h : Mut S a w) (o : Obj) : Mut S a (w.alloc o) :=
  h.ext ⟨rfl, rfl, rfl, by simp, fun k hk _ => Below.heap_alloc _ _ _ hk⟩
theorem Mut.setCell {S : Nat → Prop} {a w : World} (h : Mut S a w) {p : Addr} (hp : a.heap.size ≤ p.block ∨ S p.block) (u : Value) : Mut S a (w.setCell p u) :=
  h.trans' (T := fun k => k = p.block) ⟨rfl, rfl, rfl, by simp, fun k _ hk => Below.heap_setCell _ _ _ _ hk⟩ (by rintro i hi rfl; rcases hp with hp | hp; omega; exact hp)
theorem Mut.cell {S : Nat → Prop} {w w' : World} (h : Mut S w w') {p : Addr} {v : Value} (hp : ¬ S p.block) (hc : w.cell? p = some v) : w'.cell? p = some v :=
  (World.cell?_of_block (w := w) (h.block p.block (World.block_lt_of_cell? _ _ hc) hp)).trans hc
theorem Mut.heap {S : Nat → Prop} {w w' : World} (h : Mut S w w') {k : Nat} {o : Obj} (hp : ¬ S k) (hc : w.heap[k]? = some o) : w'.heap[k]? = some o :=
  (h.block k (lt_of_block hc) hp).trans hc
theorem Mut.below {w w' : World} (h : Ext w w') : Below w.heap.size w w' := ⟨h.os, h.tape, h.output, h.size, fun k hk => h.block k hk (fun x => x)⟩
theorem Ext.cell {w w' : World} (h : Ext w w') {p : Addr} {v : Value} (hc : w.cell? p = some v) : w'.cell? p = some v := Mut.cell h (fun x => x) hc
theorem Ext.heap {w w' : World} (h : Ext w w') {k : Nat} {o : Obj} (hc : w.heap[k]? = some o) : w'.heap[k]? = some o := Mut.heap h (fun x => x) hc

/-- a row of cells that is no part of what is frozen -/
theorem cell_of_heap {w : World} {b : Nat} {c : Array Value} {t : TypeId} (h : w.heap[b]? = some (.cells c t (0, 0))) (i : Nat) : w.cell? ⟨b, i, none⟩ = c[i]? := by simp [World.cell?, h]
theorem free_of_heap {w : World} {b : Nat} {c : Array Value} {t : TypeId} (h : w.heap[b]? = some (.cells c t (0, 0))) (i : Nat) : w.frozen? ⟨b, i, none⟩ = false := by simp [World.frozen?, h]
theorem heap_setCell {w : World} {b : Nat} {c : Array Value} {t : TypeId} (h : w.heap[b]? = some (.cells c t (0, 0))) (i : Nat) (v : Value) : (w.setCell ⟨b, i, none⟩ v).heap[b]? = some (.cells (c.setIfInBounds i v) t (0, 0)) := by
  simp only [World.setCell, Array.getElem?_modify, if_true]
  rw [h]; rfl
theorem heap_setCell_ne {w : World} {b k : Nat} {i : Nat} (h : k ≠ b) (v : Value) : (w.setCell ⟨b, i, none⟩ v).heap[k]? = w.heap[k]? := Below.heap_setCell _ _ _ _ h
theorem heap_alloc_self (w : World) (o : Obj) : (w.alloc o).heap[w.heap.size]? = some o := by show (w.heap.push o)[_]? = _; simp
theorem heap_alloc_of {w : World} {k : Nat} {o x : Obj} (h : w.heap[k]? = some o) : (w.alloc x).heap[k]? = some o := (Below.heap_alloc w x k (lt_of_block h)).trans h
theorem setRow_alloc_self (w : World) (c cs : Array Value) (t : TypeId) : (w.alloc (.cells c t)).setRow w.heap.size cs = w.alloc (.cells cs t) := by
  unfold World.setRow World.alloc
  congr 1
  apply Array.ext_getElem?
  intro i
  rw [Array.getElem?_modify, Array.getElem?_push, Array.getElem?_push]
  by_cases h : w.heap.size = i
  · simp [h]
  · rw [if_neg h, if_neg (Ne.symm h), if_neg (Ne.symm h)]
theorem Mut.one_set1 {w : World} (b : Nat) (v : Value) : Mut (fun k => k = b) w (w.setCell ⟨b, 0, none⟩ v) := Mut.setCell (S := fun k => k = b) (Mut.refl _ _) (.inr rfl) v
theorem Mut.any {S : Nat → Prop} {w w' : World} (h : Mut noB w w') : Mut S w w' := Mut.mono h (fun _ _ x => x.elim)
abbrev oneB (b : Nat) : Nat → Prop := fun k => k = b
theorem Mut.one_set {w : World} (b i : Nat) (v : Value) : Mut (oneB b) w (w.setCell ⟨b, i, none⟩ v) := Mut.setCell (S := oneB b) (Mut.refl _ _) (.inr rfl) v
theorem iv {k : IntKind} {a b : Int} (h : a = b) : Value.int k a = Value.int k b := by rw [h]
theorem ret_iv {k : IntKind} {a b : Int} (h : a = b) : Ending.returned (.int k a) = .returned (.int k b) := by rw [h]
/-- a call on what was made since W, in the block b -/
theorem Mut.one {W w w' : World} {b : Nat} (hE : Mut noB W w) (hM : Mut (oneB b) w w') (hb : W.heap.size ≤ b) : Mut noB W w' := hE.trans' hM (fun i hi h => by have : i = b := h; omega)
end Go.Proofs.Ytkjnpjkfagdegaa
