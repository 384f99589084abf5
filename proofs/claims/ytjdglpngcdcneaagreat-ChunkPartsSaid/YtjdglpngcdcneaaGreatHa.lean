/- Texts of this work, put together: Mut, After, Bytes, Own, St, Row, Arg, Comp, Push, Line, Rd, Oct, Wr, OctW, VPure, VPrint, VRead, VList. -/
import Derived.WalkKit
import Derived.WalkSpells
import Derived.WalkLawsBesides
import Derived.Lib.Hide
import Derived.Deep.QuietTactic
import Derived.BigQuiet
import Derived.Lib.AppendStr
import Derived.Lib.ConvBytes
import Derived.ProofKit
import Derived.OpenShut
import Derived.ShutString
import Derived.ChangeOld
import Derived.SizedLaws
import Derived.Deep.Slices
import Derived.Deep.Fields
import Derived.ChangeSame
import Derived.Test.YtjdglpngcdcneaaGreatRows
import Derived.StillTailTactics
/- What a call may have turned: 'Mut S w w'': every block that was there, and is not in S, is as it was. Small laws on worlds. -/
namespace Go.Proofs.YtjdglpngcdcneaaGreat
open Go.RowKit

structure Mut (S : Nat → Prop) (w w' : World) : Prop where
  os : w'.os = w.os
  tape : w'.tape = w.tape
  output : w'.output = w.output
  size : w.heap.size ≤ w'.heap.size
  block : ∀ k, k < w.heap.size → ¬ S k → w'.heap[k]? = w.heap[k]?

/-- nothing that was there has turned -/
abbrev noB : Nat → Prop := fun _ => False
abbrev Ext (w w' : World) : Prop := Mut noB w w'

theorem Mut.refl (S : Nat → Prop) (w : World) : Mut S w w := ⟨rfl, rfl, rfl, Nat.le_refl _, fun _ _ _ => rfl⟩
theorem Mut.trans' {S T : Nat → Prop} {a b c : World} (h : Mut S a b) (k : Mut T b c) (hT : ∀ i, i < a.heap.size → T i → S i) : Mut S a c :=
  ⟨k.os.trans h.os, k.tape.trans h.tape, k.output.trans h.output, Nat.le_trans h.size k.size,
    fun i hi hS => (k.block i (Nat.lt_of_lt_of_le hi h.size) (fun ht => hS (hT i hi ht))).trans (h.block i hi hS)⟩
theorem Mut.trans {S : Nat → Prop} {a b c : World} (h : Mut S a b) (k : Mut S b c) : Mut S a c := h.trans' k (fun _ _ x => x)
theorem Mut.ext {S : Nat → Prop} {a b c : World} (h : Mut S a b) (k : Ext b c) : Mut S a c := h.trans' k (fun _ _ x => x.elim)
theorem Mut.mono {S T : Nat → Prop} {a b : World} (h : Mut S a b) (hT : ∀ i, i < a.heap.size → S i → T i) : Mut T a b :=
  ⟨h.os, h.tape, h.output, h.size, fun i hi hS => h.block i hi (fun x => hS (hT i hi x))⟩
theorem Mut.drew {S : Nat → Prop} {a w : World} (h : Mut S a w) : Mut S a w.drew := ⟨h.os, h.tape, h.output, h.size, h.block⟩
theorem Mut.drewN {S : Nat → Prop} {a w : World} (h : Mut S a w) (n : Nat) : Mut S a (w.drewN n) := ⟨h.os, h.tape, h.output, h.size, h.block⟩
theorem Mut.alloc {S : Nat → Prop} {a w : World} (h : Mut S a w) (o : Obj) : Mut S a (w.alloc o) :=
  h.ext ⟨rfl, rfl, rfl, by simp, fun k hk _ => Below.heap_alloc _ _ _ hk⟩
theorem Mut.setCell {S : Nat → Prop} {a w : World} (h : Mut S a w) {p : Addr} (hp : a.heap.size ≤ p.block ∨ S p.block) (u : Value) : Mut S a (w.setCell p u) :=
  h.trans' (T := fun k => k = p.block) ⟨rfl, rfl, rfl, by simp, fun k _ hk => Below.heap_setCell _ _ _ _ hk⟩ (by rintro i hi rfl; rcases hp with hp | hp; omega; exact hp)
theorem Mut.cell {S : Nat → Prop} {w w' : World} (h : Mut S w w') {p : Addr} {v : Value} (hp : ¬ S p.block) (hc : w.cell? p = some v) : w'.cell? p = some v :=
  (World.cell?_of_block (w := w) (h.block p.block (World.block_lt_of_cell? _ _ hc) hp)).trans hc
theorem Mut.heap {S : Nat → Prop} {w w' : World} (h : Mut S w w') {k : Nat} {o : Obj} (hp : ¬ S k) (hc : w.heap[k]? = some o) : w'.heap[k]? = some o :=
  (h.block k (lt_of_block hc) hp).trans hc
theorem Mut.below {w w' : World} (h : Ext w w') : Below w.heap.size w w' := ⟨h.os, h.tape, h.output, h.size, fun k hk => h.block k hk (fun x => x)⟩
theorem Ext.cell {w w' : World} (h : Ext w w') {p : Addr} {v : Value} (hc : w.cell? p = some v) : w'.cell? p = some v := Mut.cell h (fun x => x) hc
theorem Ext.heap {w w' : World} (h : Ext w w') {k : Nat} {o : Obj} (hc : w.heap[k]? = some o) : w'.heap[k]? = some o := Mut.heap h (fun x => x) hc

/-- a row of cells that is no part of what is frozen -/
theorem cell_of_heap {w : World} {b : Nat} {c : Array Value} {t : TypeId} (h : w.heap[b]? = some (.cells c t (0, 0))) (i : Nat) : w.cell? ⟨b, i, none⟩ = c[i]? := by simp [World.cell?, h]
theorem free_of_heap {w : World} {b : Nat} {c : Array Value} {t : TypeId} (h : w.heap[b]? = some (.cells c t (0, 0))) (i : Nat) : w.frozen? ⟨b, i, none⟩ = false := by simp [World.frozen?, h]
theorem heap_setCell {w : World} {b : Nat} {c : Array Value} {t : TypeId} (h : w.heap[b]? = some (.cells c t (0, 0))) (i : Nat) (v : Value) : (w.setCell ⟨b, i, none⟩ v).heap[b]? = some (.cells (c.setIfInBounds i v) t (0, 0)) := by
  simp only [World.setCell, Array.getElem?_modify, if_true]
  rw [h]; rfl
theorem heap_setCell_ne {w : World} {b k : Nat} {i : Nat} (h : k ≠ b) (v : Value) : (w.setCell ⟨b, i, none⟩ v).heap[k]? = w.heap[k]? := Below.heap_setCell _ _ _ _ h
theorem heap_alloc_self (w : World) (o : Obj) : (w.alloc o).heap[w.heap.size]? = some o := by show (w.heap.push o)[_]? = _; simp
theorem heap_alloc_of {w : World} {k : Nat} {o x : Obj} (h : w.heap[k]? = some o) : (w.alloc x).heap[k]? = some o := (Below.heap_alloc w x k (lt_of_block h)).trans h
theorem setRow_alloc_self (w : World) (c cs : Array Value) (t : TypeId) : (w.alloc (.cells c t)).setRow w.heap.size cs = w.alloc (.cells cs t) := by
  unfold World.setRow World.alloc
  congr 1
  apply Array.ext_getElem?
  intro i
  rw [Array.getElem?_modify, Array.getElem?_push, Array.getElem?_push]
  by_cases h : w.heap.size = i
  · simp [h]
  · rw [if_neg h, if_neg (Ne.symm h), if_neg (Ne.symm h)]
theorem Mut.one_set1 {w : World} (b : Nat) (v : Value) : Mut (fun k => k = b) w (w.setCell ⟨b, 0, none⟩ v) := Mut.setCell (S := fun k => k = b) (Mut.refl _ _) (.inr rfl) v
theorem Mut.any {S : Nat → Prop} {w w' : World} (h : Mut noB w w') : Mut S w w' := Mut.mono h (fun _ _ x => x.elim)
abbrev oneB (b : Nat) : Nat → Prop := fun k => k = b
theorem Mut.one_set {w : World} (b i : Nat) (v : Value) : Mut (oneB b) w (w.setCell ⟨b, i, none⟩ v) := Mut.setCell (S := oneB b) (Mut.refl _ _) (.inr rfl) v
theorem iv {k : IntKind} {a b : Int} (h : a = b) : Value.int k a = Value.int k b := by rw [h]
theorem ret_iv {k : IntKind} {a b : Int} (h : a = b) : Ending.returned (.int k a) = .returned (.int k b) := by rw [h]
/-- a call on what was made since W, in the block b -/
theorem Mut.one {W w w' : World} {b : Nat} (hE : Mut noB W w) (hM : Mut (oneB b) w w') (hb : W.heap.size ≤ b) : Mut noB W w' := hE.trans' hM (fun i hi h => by have : i = b := h; omega)
end Go.Proofs.YtjdglpngcdcneaaGreat

/- A region that draws its order, whose operations read, and whose calls make memory and turn nothing that was there: one walk, in the order of the text, in 'some world behind w0' (After w0). -/
namespace Go.Proofs.YtjdglpngcdcneaaGreat
open Go.RowKit
set_option linter.unusedVariables false

/-- a world behind w0: nothing that was there has turned -/
structure After (w0 : World) where
  w : World
  ext : Ext w0 w
instance (w0 : World) : Nonempty (After w0) := ⟨⟨w0, Mut.refl _ _⟩⟩

section
variable {P : Program} {w0 : World}
@[go_sem] theorem After.cell (x : After w0) (a : Addr) (h : a.block < w0.heap.size) : x.w.cell? a = w0.cell? a := World.cell?_of_block (w := w0) (x.ext.block a.block h (fun x => x))
@[go_sem] theorem After.frozen (x : After w0) (a : Addr) (h : a.block < w0.heap.size) : x.w.frozen? a = w0.frozen? a := World.frozen?_of_block (w := w0) (x.ext.block a.block h (fun x => x))
theorem After.heap (x : After w0) {k : Nat} {o : Obj} (h : w0.heap[k]? = some o) : x.w.heap[k]? = some o := x.ext.heap h
/-- a callee that makes memory alone -/
theorem Calls.after {f : FuncId} {args : Array Value} {x : After w0} {v : Value}
    (h : Calls P f args x.w fun e w' => e = .returned v ∧ Ext x.w w') : Calls P f args x.w fun e w'' => e = .returned v ∧ ∃ y : After w0, w'' = y.w :=
  h.mono fun _ w' ⟨he, hm⟩ => ⟨he, ⟨w', x.ext.trans hm⟩, rfl⟩
theorem Calls.after_same {f : FuncId} {args : Array Value} {x : After w0} {v : Value}
    (h : Calls P f args x.w fun e w' => e = .returned v ∧ x.w = w') : Calls P f args x.w fun e w'' => e = .returned v ∧ ∃ y : After w0, w'' = y.w :=
  h.mono fun _ w' ⟨he, hm⟩ => ⟨he, x, hm.symm⟩
/-- the region -/
theorem wp_region_after {id : Nat} {Q : Exit → Act → World → Prop} {a : Act} {l : List Oper} (hm : P.follows .mixedOrders = true) (hB : Region.lexB .any l.toArray = true)
    (h : wpQuiet P l.toArray (fun w' => ∃ x : After w0, w' = x.w) (fun a' => ∀ w', (∃ x : After w0, w' = x.w) → Q .normal a' w') l a) : (Code.region id l.toArray true).wp P Q a w0 :=
  wp_region_quiet (C := fun w' => ∃ x : After w0, w' = x.w) hm hB ⟨⟨_, (Mut.refl noB w0).drew⟩, rfl⟩ (by simpa using h)
/-- a whole row is read -/
theorem quiet_load_row {o : Oper} {a : Act} {K : Act → Prop} (ty : TypeId) (x : Operand) (ho : o.op = .load ty x) (g : Nat) (hx : a.eval x = .pointer (some ⟨g, 0, none⟩)) (t : TypeId) (cs : Array Value) (fr : Nat × Nat) (d : TypeDesc)
    (hg : w0.heap[g]? = some (.cells cs t fr)) (hu : P.underlying ty = some d) (hd : (match d with | .struct _ | .array _ _ => true | _ => false) = true) (hi : (P.info? ty).map (·.size) = some cs.size)
    (hk : K (a.put o.dst (.agg cs))) : o.quiet P a (fun w' => ∃ x : After w0, w' = x.w) K := by
  refine ⟨_, ?_, hk⟩
  rintro w ⟨y, rfl⟩
  unfold Oper.quietAt execOp
  simp only [ho, hx, Instr.loadAt, Instr.sureAddr, Sem.run_bind, Sem.run_pure, Result.andThen_ok, run_loadVar_row y.w g t ty cs fr d (y.heap hg) hu hd hi]
  exact ⟨rfl, rfl⟩
end
end Go.Proofs.YtjdglpngcdcneaaGreat

/- Rows of bytes in memory. -/
namespace Go.Proofs.YtjdglpngcdcneaaGreat
open Go.RowKit
def bv (c : UInt8) : Value := .int .u8 (c.toNat : Nat)
def bytesV (l : List UInt8) : List Value := l.map bv
theorem bytesV_len (l : List UInt8) : (bytesV l).length = l.length := by simp [bytesV]
theorem bytesV_get (l : List UInt8) (i : Nat) (h : i < l.length) : (bytesV l)[i]? = some (bv (l.getD i 0)) := by simp [bytesV, h]
theorem bytesV_set (l : List UInt8) (i : Nat) (c : UInt8) : (bytesV l).set i (bv c) = bytesV (l.set i c) := by simp [bytesV, List.map_set]
theorem bytesV_append (l m : List UInt8) : bytesV (l ++ m) = bytesV l ++ bytesV m := by simp [bytesV]
theorem bytesV_one (l : List UInt8) : ∀ u ∈ bytesV l, u.oneCell' = true := by
  intro u hu; simp only [bytesV, List.mem_map] at hu; obtain ⟨c, _, rfl⟩ := hu; rfl
theorem strOf_bytes (l : List UInt8) : strOfNums (l.map fun c => ((c.toNat : Nat) : Int)) = ⟨l.toArray⟩ := by
  unfold strOfNums
  congr 2
  rw [List.map_map]
  conv => rhs; rw [← List.map_id l]
  apply List.map_congr_left
  intro c _
  simp
/-- a string out of bytes -/
theorem run_string_of_row {P : Program} (w : World) (src e : TypeId) (hs : P.underlying src = some (.slice e)) (he : P.underlying e = some (.int .u8)) (b n cap : Nat) (l : List UInt8) (hn : l.length = n)
    (hc : ∀ i, i < n → w.cell? ⟨b, i, none⟩ = some (bv (l.getD i 0))) (dst : TypeId) (hd : P.underlying dst = some .string) :
    (convert src dst (.slice (some ⟨b, 0, none⟩) n cap)).run P w = .ok (.string ⟨l.toArray⟩) w := by
  rw [← strOf_bytes]
  refine run_convert_bytes_arg w src e hs he b 0 n cap _ (by simpa using hn) (fun i hi => ?_) dst hd
  rw [Nat.zero_add, hc i hi]
  rw [List.getD_eq_getElem?_getD, List.getD_eq_getElem?_getD, List.getElem?_map]
  rw [List.getElem?_eq_getElem (by omega)]; rfl
theorem cells_of_row {w : World} {b : Nat} {l : List UInt8} {t : TypeId} (h : w.heap[b]? = some (.cells (bytesV l).toArray t (0, 0))) (i : Nat) (hi : i < l.length) : w.cell? ⟨b, i, none⟩ = some (bv (l.getD i 0)) := by
  rw [cell_of_heap h]; simpa using bytesV_get l i hi
theorem zeros_u8 (n : Nat) : madeCells #[Value.int .u8 0] n = (bytesV (List.replicate n 0)).toArray := by
  apply Array.toList_inj.1
  rw [toList_madeCells_one]
  simp [bytesV, bv]
theorem cells_news {w : World} {ad : Addr} {m : List UInt8} (h : ∀ i, i < m.length → w.cell? (ad.add i) = some (bv (m.getD i 0))) : ∀ j u, (bytesV m)[j]? = some u → w.cell? (ad.add j) = some u := by
  intro j u hj
  have hl : j < m.length := by
    rcases Nat.lt_or_ge j m.length with h | h
    · exact h
    · rw [List.getElem?_eq_none (by rw [bytesV_len]; exact h)] at hj; cases hj
  rw [bytesV_get m j hl] at hj
  cases hj
  exact h j hl
theorem ext_data (s : ByteArray) (a b : Nat) : (s.extract a b).data.toList = (s.data.toList.drop a).take (b - a) := by
  rw [ByteArray.data_extract, Array.toList_extract, List.extract_eq_take_drop]
theorem ext_toList (s : ByteArray) (a b : Nat) : (s.extract a b).toList = (s.data.toList.drop a).take (b - a) := by rw [ByteArray.toList_eq, ext_data]
theorem data_len (s : ByteArray) : s.data.toList.length = s.size := by rw [Array.length_toList]; rfl
end Go.Proofs.YtjdglpngcdcneaaGreat

/- Slices that a call owns: append in its three arms, and where the row lies behind it. -/
namespace Go.Proofs.YtjdglpngcdcneaaGreat
open Go.RowKit
set_option linter.unusedVariables false
set_option linter.unusedSimpArgs false
set_option linter.unusedSectionVars false

/-- value v is a slice that owns its row: n elements, their cells xs -/
def Own (w : World) (e : TypeId) (size : Nat) (v : Value) (n : Nat) (xs : List Value) : Prop := w.ownsRow 0 e size v n xs
/-- its row is the old one, or a new one -/
def Moved (w : World) (v v' : Value) : Prop := v'.ownBlock = v.ownBlock ∨ ∃ k, v'.ownBlock = some k ∧ w.heap.size ≤ k
def OwnGe (B : Nat) (v : Value) : Prop := ∀ k, v.ownBlock = some k → B ≤ k
/-- v's row -/
def ownS (v : Value) : Nat → Prop := fun k => v.ownBlock = some k
theorem OwnGe.nil (B : Nat) : OwnGe B (.slice none 0 0) := fun k h => by cases h
theorem OwnGe.mono {B C : Nat} {v : Value} (h : OwnGe B v) (hc : C ≤ B) : OwnGe C v := fun k hk => Nat.le_trans hc (h k hk)
theorem Moved.ge {w : World} {v v' : Value} {B : Nat} (h : Moved w v v') (hv : OwnGe B v) (hB : B ≤ w.heap.size) : OwnGe B v' := by
  intro k hk
  rcases h with h | ⟨k', h, hk'⟩
  · exact hv k (h ▸ hk)
  · rw [h] at hk; cases hk; omega
theorem Moved.refl (w : World) (v : Value) : Moved w v v := .inl rfl
theorem Moved.trans {w w1 : World} {v v1 v2 : Value} (h : Moved w v v1) (h2 : Moved w1 v1 v2) (hs : w.heap.size ≤ w1.heap.size) : Moved w v v2 := by
  rcases h2 with h2 | ⟨k, h2, hk⟩
  · rcases h with h | ⟨k, h, hk⟩
    · exact .inl (h2.trans h)
    · exact .inr ⟨k, h2.trans h, hk⟩
  · exact .inr ⟨k, h2, by omega⟩
theorem Moved.pre {w w1 : World} {v v' : Value} (h : Moved w1 v v') (hs : w.heap.size ≤ w1.heap.size) : Moved w v v' := h.imp id (fun ⟨k, a, b⟩ => ⟨k, a, Nat.le_trans hs b⟩)
theorem Mut.pre {S : Nat → Prop} {w w1 w2 : World} (h : Mut S w1 w2) (x : Ext w w1) : Mut S w w2 := (Mut.any x).trans h
/-- a block that stood there and wasn't v's is not v's later -/
theorem Moved.ne {w : World} {v v' : Value} {b : Nat} (h : Moved w v v') (hv : v.ownBlock ≠ some b) (hb : b < w.heap.size) : v'.ownBlock ≠ some b := by
  rcases h with h | ⟨k, h, hk⟩
  · rw [h]; exact hv
  · rw [h]; intro e; cases e; omega
theorem Mut.grown {w w' : World} {v : Value} (h : w.grownBy w' v.ownBlock) : Mut (ownS v) w w' := ⟨h.os, h.tape, h.output, h.size, fun k hk hn => h.block k hk (fun e => hn e.symm)⟩
theorem Own.len {w : World} {e : TypeId} {size : Nat} {v : Value} {n : Nat} {xs : List Value} (h : Own w e size v n xs) : xs.length = n * size := h.1
theorem Own.lt {w : World} {e : TypeId} {size : Nat} {v : Value} {n : Nat} {xs : List Value} (h : Own w e size v n xs) : ∀ k, v.ownBlock = some k → k < w.heap.size := fun k hk => (World.ownsRow.lt h k hk).2
theorem Own.keep {S : Nat → Prop} {w w' : World} {e : TypeId} {size : Nat} {v : Value} {n : Nat} {xs : List Value} (h : Own w e size v n xs) (x : Mut S w w') (hv : ∀ k, v.ownBlock = some k → ¬ S k) : Own w' e size v n xs := by
  refine ⟨h.1, ?_⟩
  rcases h.2 with h2 | ⟨g, cap, cur, hv2, hb, hh, r⟩
  · exact .inl h2
  · exact .inr ⟨g, cap, cur, hv2, hb, x.heap (hv g (by rw [hv2]; rfl)) hh, r⟩
theorem Own.form {w : World} {e : TypeId} {size : Nat} {v : Value} {n : Nat} {xs : List Value} (h : Own w e size v n xs) : ∃ A c, v = .slice A n c := by
  rcases h.2 with ⟨rfl, rfl⟩ | ⟨g, cap, cur, rfl, _⟩
  · exact ⟨_, _, rfl⟩
  · exact ⟨_, _, rfl⟩
theorem Own.ext {w w' : World} {e : TypeId} {size : Nat} {v : Value} {n : Nat} {xs : List Value} (h : Own w e size v n xs) (x : Ext w w') : Own w' e size v n xs := h.keep x (fun _ _ f => f)
theorem Own.nil (w : World) (e : TypeId) (size : Nat) : Own w e size (.slice none 0 0) 0 [] := World.ownsRow_nil w 0 e size

theorem ext_bytesWorld (w : World) (e : TypeId) (s : ByteArray) : Ext w (Lib.bytesWorld w e s) := by
  refine ⟨?_, ?_, ?_, by rw [Lib.bytesWorld_size]; omega, fun k hk _ => Lib.bytesWorld_at_old w e s k hk⟩
  all_goals (unfold Lib.bytesWorld World.freeze; split <;> rfl)
theorem app_str (l : List UInt8) (s : ByteArray) : (⟨l.toArray⟩ : ByteArray) ++ s = ⟨(l ++ s.data.toList).toArray⟩ := by
  apply Go.WideShapes.bytes_inj
  show ((⟨l.toArray⟩ : ByteArray) ++ s).data.toList = l ++ s.data.toList
  rw [ByteArray.data_append]; simp
section
variable {P : Program} (w : World)
/-- append of a row's elements -/
theorem run_append_moved (t ty e : TypeId) (i : TypeInfo) (z : Value) (size bytes : Nat) (ht : P.underlying t = some (.slice e)) (hi : P.info? e = some i) (hz : i.zero = some z)
    (hsize : i.size = size) (hby : i.bytes = bytes) (hzs : z.cells.size = size) (hsz : 0 < size)
    (v : Value) (n : Nat) (xs : List Value) (hown : Own w e size v n xs)
    (a : Addr) (m c : Nat) (news : List Value) (hl : news.length = m * size) (hnews : ∀ j u, news[j]? = some u → w.cell? (a.add j) = some u) (h1 : ∀ u ∈ news, u.oneCell' = true)
    (h63 : n + m ≤ maxLen) (hbytes : (n + m) * bytes ≤ 140737488355328) :
    ∃ v' w', (Builtin.append_ #[t, t] ty #[v, .slice (some a) m c]).run P w = .ok v' w' ∧ Own w' e size v' (n + m) (xs ++ news) ∧ Mut (ownS v) w w' ∧ Moved w v v' := by
  obtain ⟨v', w', hr, ho, hg, hn⟩ := run_append_own (P := P) w 0 t ty e i z size bytes ht hi hz hsize hby hzs hsz v n xs hown a m c news hl hnews h1 h63 hbytes (Nat.zero_le _)
  refine ⟨v', w', hr, ho, Mut.grown hg, ?_⟩
  rcases hown.2 with ⟨rfl, rfl⟩ | ⟨g, cap, cur, rfl, hbg, hh, hnc, hcm, hcs, htake⟩
  · obtain ⟨v2, w2, hr2, ho2, _, _⟩ := run_append_own (P := P) w w.heap.size t ty e i z size bytes ht hi hz hsize hby hzs hsz _ 0 xs ⟨hown.1, .inl ⟨rfl, rfl⟩⟩ a m c news hl hnews h1 h63 hbytes (Nat.le_refl _)
    rw [hr] at hr2
    obtain ⟨rfl, rfl⟩ := Result.ok.inj hr2
    cases hb : v'.ownBlock with
    | none => exact .inl hb
    | some k => exact .inr ⟨k, hb, (World.ownsRow.lt ho2 k hb).1⟩
  · subst hsize
    by_cases hroom : n + m ≤ cap
    · have hfit : n * i.size + news.length ≤ cur.size := by rw [hl, hcs, ← Nat.add_mul]; exact Nat.mul_le_mul_right _ hroom
      have hr2 := run_append_room (P := P) w t ty e i ht hi g n cap cur hh a m c news hl hnews h1 hroom hfit
      rw [hr] at hr2
      obtain ⟨rfl, _⟩ := Result.ok.inj hr2
      exact .inl rfl
    · have hsmall : n + m ≤ 9223372036854775807 := by simp only [maxLen] at h63; omega
      have holds : ∀ j u, xs[j]? = some u → w.cell? ((⟨g, 0, none⟩ : Addr).add j) = some u := World.ownsRow.cells hown (g := g) rfl
      subst hby
      have hr2 := run_append_grow (P := P) w t ty e i z ht hi hz ⟨g, 0, none⟩ n cap xs hown.1 holds a m c news hl hnews (by omega) (by omega) (growslice_fits (by omega) hbytes)
      rw [hr] at hr2
      obtain ⟨rfl, _⟩ := Result.ok.inj hr2
      exact .inr ⟨_, rfl, Nat.le_refl _⟩
/-- append of a string's bytes -/
theorem run_append_moved_string (t u ty e : TypeId) (i : TypeInfo) (ht : P.underlying t = some (.slice e)) (hu : P.underlying u = some .string) (hi : P.info? e = some i) (hz : i.zero = some (.int .u8 0))
    (hsize : i.size = 1) (hby : i.bytes = 1)
    (v : Value) (n : Nat) (xs : List Value) (hown : Own w e 1 v n xs) (s : ByteArray)
    (h63 : n + s.size ≤ maxLen) (hbytes : n + s.size ≤ 140737488355328) :
    ∃ v' w', (Builtin.append_ #[t, u] ty #[v, .string s]).run P w = .ok v' w' ∧ Own w' e 1 v' (n + s.size) (xs ++ bytesV s.data.toList) ∧ Mut (ownS v) w w' ∧ Moved w v v' := by
  obtain ⟨v', w', hr, ho, hg, hn⟩ := Lib.run_append_own_string (P := P) w 0 t u ty e i ht hu hi hz hsize hby v n xs hown s h63 hbytes (Nat.zero_le _)
  refine ⟨v', w', hr, ho, Mut.grown hg, ?_⟩
  rcases hown.2 with ⟨rfl, rfl⟩ | ⟨g, cap, cur, rfl, hbg, hh, hnc, hcm, hcs, htake⟩
  · obtain ⟨v2, w2, hr2, ho2, _, _⟩ := Lib.run_append_own_string (P := P) w w.heap.size t u ty e i ht hu hi hz hsize hby _ 0 xs ⟨hown.1, .inl ⟨rfl, rfl⟩⟩ s h63 hbytes (Nat.le_refl _)
    rw [hr] at hr2
    obtain ⟨rfl, rfl⟩ := Result.ok.inj hr2
    cases hb : v'.ownBlock with
    | none => exact .inl hb
    | some k => exact .inr ⟨k, hb, (World.ownsRow.lt ho2 k hb).1⟩
  · have hxl : xs.length = n := by simpa using hown.1
    by_cases hroom : n + s.size ≤ cap
    · have hcs' : cur.size = cap := by simpa using hcs
      have hr2 := Lib.run_append_room_string (P := P) w t u ty e i ht hu hi hsize g n cap cur hh s hroom (by omega)
      rw [hr] at hr2
      obtain ⟨rfl, _⟩ := Result.ok.inj hr2
      exact .inl rfl
    · have hsmall : n + s.size ≤ 9223372036854775807 := by simp only [maxLen] at h63; omega
      have holds : ∀ j u, xs[j]? = some u → w.cell? ((⟨g, 0, none⟩ : Addr).add j) = some u := World.ownsRow.cells hown (g := g) rfl
      have hr2 := Lib.run_append_grow_string (P := P) w t u ty e i (.int .u8 0) ht hu hi hz ⟨g, 0, none⟩ n cap xs (by rw [hsize]; simpa using hxl) holds s (by omega) (by omega) (by rw [hby]; exact growslice_fits (by omega) (by omega))
      rw [hr] at hr2
      obtain ⟨rfl, _⟩ := Result.ok.inj hr2
      exact .inr ⟨_, rfl, Nat.le_refl _⟩
/-- append of nothing -/
theorem run_append_none (t ty e : TypeId) (i : TypeInfo) (ht : P.underlying t = some (.slice e)) (hi : P.info? e = some i)
    (v : Value) (n : Nat) (xs : List Value) (size : Nat) (hown : Own w e size v n xs) (hsize : i.size = size) (c : Nat) :
    (Builtin.append_ #[t, t] ty #[v, .slice none 0 c]).run P w = .ok v w := by
  rcases hown.2 with ⟨rfl, rfl⟩ | ⟨g, cap, cur, rfl, hbg, hh, hnc, hcm, hcs, htake⟩
  · simp [Builtin.append_, run_underlying ht, sizeOf, typeInfo, hi, Builtin.lenOf, Builtin.firstCells, loadCells, loadCellsFrom]
  · simp [Builtin.append_, run_underlying ht, sizeOf, typeInfo, hi, Builtin.lenOf, Builtin.firstCells, loadCells, loadCellsFrom, hnc, storeCells]

/-- the operations, for a walk -/
theorem wpList_append {ops : Array Oper} {rest : List Oper} {o : Oper} {a : Act} {Q : Exit → Act → World → Prop} (hgd : o.guard = none) (s x : Operand) (t : TypeId)
    (ho : o.op = .call { callee := .builtin .append, args := #[s, x], argTypes := #[t, t] })
    (e : TypeId) (z : Value) (size bytes : Nat) (ht : P.underlying t = some (.slice e)) (hinfo : (P.info? e).map (fun i => (i.zero, i.size, i.bytes)) = some (some z, size, bytes)) (hzs : z.cells.size = size) (hsz : 0 < size)
    (v : Value) (n : Nat) (xs : List Value) (hs : a.eval s = v) (hown : Own w e size v n xs)
    (ad : Addr) (m c : Nat) (news : List Value) (hx : a.eval x = .slice (some ad) m c) (hl : news.length = m * size) (hnews : ∀ j u, news[j]? = some u → w.cell? (ad.add j) = some u) (h1 : ∀ u ∈ news, u.oneCell' = true)
    (h63 : n + m ≤ maxLen) (hbytes : (n + m) * bytes ≤ 140737488355328)
    (h : ∀ v' w', Own w' e size v' (n + m) (xs ++ news) → Mut (ownS v) w w' → Moved w v v' → wpList P ops Q rest (a.put o.dst v') w') : wpList P ops Q (o :: rest) a w := by
  refine wpList_plain hgd fun K hK => ?_
  obtain ⟨i, hi, hz, hsize, hby⟩ := info_parts hinfo
  obtain ⟨v', w', hr, h2, h3, h4⟩ := run_append_moved (P := P) w t o.type e i z size bytes ht hi hz hsize hby hzs hsz v n xs hown ad m c news hl hnews h1 h63 hbytes
  unfold Oper.wp execOp
  simp only [ho, resolve, invoke, builtin, Sem.run_bind, Sem.run_pure, Result.andThen_ok, List.map_toArray, List.map_cons, List.map_nil, hs, hx, hr]
  exact hK _ _ (h v' w' h2 h3 h4)
theorem wpList_append_string {ops : Array Oper} {rest : List Oper} {o : Oper} {a : Act} {Q : Exit → Act → World → Prop} (hgd : o.guard = none) (sl x : Operand) (t u : TypeId)
    (ho : o.op = .call { callee := .builtin .append, args := #[sl, x], argTypes := #[t, u] })
    (e : TypeId) (ht : P.underlying t = some (.slice e)) (hu : P.underlying u = some .string) (hinfo : (P.info? e).map (fun i => (i.zero, i.size, i.bytes)) = some (some (.int .u8 0), 1, 1))
    (v : Value) (n : Nat) (xs : List Value) (hs : a.eval sl = v) (hown : Own w e 1 v n xs) (s : ByteArray) (hx : a.eval x = .string s)
    (h63 : n + s.size ≤ maxLen) (hbytes : n + s.size ≤ 140737488355328)
    (h : ∀ v' w', Own w' e 1 v' (n + s.size) (xs ++ bytesV s.data.toList) → Mut (ownS v) w w' → Moved w v v' → wpList P ops Q rest (a.put o.dst v') w') : wpList P ops Q (o :: rest) a w := by
  refine wpList_plain hgd fun K hK => ?_
  obtain ⟨i, hi, hz, hsize, hby⟩ := info_parts hinfo
  obtain ⟨v', w', hr, h2, h3, h4⟩ := run_append_moved_string (P := P) w t u o.type e i ht hu hi hz hsize hby v n xs hown s h63 hbytes
  unfold Oper.wp execOp
  simp only [ho, resolve, invoke, builtin, Sem.run_bind, Sem.run_pure, Result.andThen_ok, List.map_toArray, List.map_cons, List.map_nil, hs, hx, hr]
  exact hK _ _ (h v' w' h2 h3 h4)
theorem wpList_append_none {ops : Array Oper} {rest : List Oper} {o : Oper} {a : Act} {Q : Exit → Act → World → Prop} (hgd : o.guard = none) (s x : Operand) (t : TypeId)
    (ho : o.op = .call { callee := .builtin .append, args := #[s, x], argTypes := #[t, t] })
    (e : TypeId) (z : Value) (size bytes : Nat) (ht : P.underlying t = some (.slice e)) (hinfo : (P.info? e).map (fun i => (i.zero, i.size, i.bytes)) = some (some z, size, bytes))
    (v : Value) (n : Nat) (xs : List Value) (hs : a.eval s = v) (hown : Own w e size v n xs) (c : Nat) (hx : a.eval x = .slice none 0 c)
    (h : wpList P ops Q rest (a.put o.dst v) w) : wpList P ops Q (o :: rest) a w := by
  refine wpList_plain hgd fun K hK => ?_
  obtain ⟨i, hi, hz, hsize, hby⟩ := info_parts hinfo
  unfold Oper.wp execOp
  simp only [ho, resolve, invoke, builtin, Sem.run_bind, Sem.run_pure, Result.andThen_ok, List.map_toArray, List.map_cons, List.map_nil, hs, hx, run_append_none (P := P) w t o.type e i ht hi v n xs size hown hsize c]
  exact hK _ _ h
end
end Go.Proofs.YtjdglpngcdcneaaGreat

/- What a call holds in memory, thing by thing: each has a footprint of its own, no two meet, and nothing else that was there has turned. -/
namespace Go.Proofs.YtjdglpngcdcneaaGreat
open Go.RowKit
set_option linter.unusedVariables false

structure Thing where
  holds : World → (Nat → Prop) → Prop
  keep : ∀ {S : Nat → Prop} {w w' : World} {fp : Nat → Prop}, holds w fp → Mut S w w' → (∀ k, fp k → ¬ S k) → holds w' fp
  lt : ∀ {w : World} {fp : Nat → Prop} {k : Nat}, holds w fp → fp k → k < w.heap.size

/-- the things of a list, within what may turn: what lies in S, or was made since W -/
def Things (S : Nat → Prop) (W w : World) : List Thing → (Nat → Prop) → Prop
  | [], all => ∀ k, ¬ all k
  | t :: L, all => ∃ fp rest, t.holds w fp ∧ Things S W w L rest ∧ (∀ k, fp k → ¬ rest k) ∧ (∀ k, all k ↔ fp k ∨ rest k) ∧ (∀ k, fp k → S k ∨ W.heap.size ≤ k)
structure St (S : Nat → Prop) (W w : World) (L : List Thing) : Prop where
  turn : Mut S W w
  things : ∃ all, Things S W w L all

theorem Things.keep {S R : Nat → Prop} {W w w' : World} (hm : Mut R w w') : ∀ {L : List Thing} {all : Nat → Prop}, Things S W w L all → (∀ k, all k → ¬ R k) → Things S W w' L all
  | [], _, h, _ => h
  | t :: L, all, ⟨fp, rest, h1, h2, h3, h4, h5⟩, hR =>
    ⟨fp, rest, t.keep h1 hm (fun k hk => hR k ((h4 k).2 (.inl hk))), Things.keep hm h2 (fun k hk => hR k ((h4 k).2 (.inr hk))), h3, h4, h5⟩
theorem Things.lt {S : Nat → Prop} {W w : World} : ∀ {L : List Thing} {all : Nat → Prop}, Things S W w L all → ∀ k, all k → k < w.heap.size
  | [], _, h, k, hk => (h k hk).elim
  | t :: L, all, ⟨fp, rest, h1, h2, h3, h4, h5⟩, k, hk => by
    rcases (h4 k).1 hk with h | h
    · exact t.lt h1 h
    · exact Things.lt h2 k h
theorem St.start (S : Nat → Prop) (W : World) : St S W W [] := ⟨Mut.refl _ _, fun _ => False, fun _ h => h⟩
theorem St.ext {S : Nat → Prop} {W w w' : World} {L : List Thing} (h : St S W w L) (x : Ext w w') : St S W w' L :=
  ⟨h.turn.ext x, let ⟨all, ht⟩ := h.things; ⟨all, ht.keep x (fun _ _ f => f)⟩⟩
/-- the first one turns -/
theorem St.upd {S : Nat → Prop} {W w w' : World} {t t' : Thing} {L : List Thing} (h : St S W w (t :: L))
    (hu : ∀ fp, t.holds w fp → ∃ fp', t'.holds w' fp' ∧ Mut fp w w' ∧ (∀ k, fp' k → fp k ∨ w.heap.size ≤ k)) : St S W w' (t' :: L) := by
  obtain ⟨hm, all, fp, rest, h1, h2, h3, h4, h5⟩ := h
  obtain ⟨fp', g1, g2, g3⟩ := hu fp h1
  refine ⟨hm.trans' g2 (fun i hi hf => (h5 i hf).resolve_right (by omega)), fun k => fp' k ∨ rest k, fp', rest, g1, h2.keep g2 (fun k hk hf => h3 k hf hk), ?_, fun k => Iff.rfl, ?_⟩
  · intro k hk hr
    rcases g3 k hk with h | h
    · exact h3 k h hr
    · have := h2.lt k hr; omega
  · intro k hk
    rcases g3 k hk with h | h
    · exact h5 k h
    · have := hm.size; right; omega
/-- a new one -/
theorem St.add {S : Nat → Prop} {W w w' : World} {t : Thing} {L : List Thing} (h : St S W w L) (x : Ext w w')
    (hn : ∃ fp, t.holds w' fp ∧ ∀ k, fp k → w.heap.size ≤ k) : St S W w' (t :: L) := by
  obtain ⟨hm, all, ht⟩ := h
  obtain ⟨fp, g1, g2⟩ := hn
  refine ⟨hm.ext x, fun k => fp k ∨ all k, fp, all, g1, ht.keep x (fun _ _ f => f), ?_, fun k => Iff.rfl, ?_⟩
  · intro k hk hr; have := ht.lt k hr; have := g2 k hk; omega
  · intro k hk; have := g2 k hk; have := hm.size; right; omega
/-- one that came in -/
theorem St.given {S : Nat → Prop} {W w : World} {t : Thing} {L : List Thing} {fp : Nat → Prop} (h : St S W w L) (ht : t.holds w fp) (hS : ∀ k, fp k → S k) (hd : ∀ all, Things S W w L all → ∀ k, fp k → ¬ all k) : St S W w (t :: L) := by
  obtain ⟨hm, all, hts⟩ := h
  exact ⟨hm, fun k => fp k ∨ all k, fp, all, ht, hts, hd all hts, fun k => Iff.rfl, fun k hk => .inl (hS k hk)⟩
theorem St.one {W : World} {t : Thing} {fp : Nat → Prop} (ht : t.holds W fp) : St fp W W [t] :=
  (St.start fp W).given ht (fun _ h => h) (fun _ h k _ hk => h k hk)
theorem St.drop {S : Nat → Prop} {W w : World} {t : Thing} {L : List Thing} (h : St S W w (t :: L)) : St S W w L := by
  obtain ⟨hm, all, fp, rest, h1, h2, h3, h4, h5⟩ := h
  exact ⟨hm, rest, h2⟩
theorem St.swap {S : Nat → Prop} {W w : World} {t u : Thing} {L : List Thing} (h : St S W w (t :: u :: L)) : St S W w (u :: t :: L) := by
  obtain ⟨hm, all, fp, rest, h1, ⟨fp2, rest2, g1, g2, g3, g4, g5⟩, h3, h4, h5⟩ := h
  refine ⟨hm, all, fp2, fun k => fp k ∨ rest2 k, g1, ⟨fp, rest2, h1, g2, ?_, fun k => Iff.rfl, h5⟩, ?_, ?_, g5⟩
  · intro k hk hr; exact h3 k hk ((g4 k).2 (.inr hr))
  · rintro k hk (hf | hr)
    · exact h3 k hf ((g4 k).2 (.inl hk))
    · exact g3 k hk hr
  · intro k
    rw [h4, g4]
    constructor
    · rintro (h | h | h)
      · exact .inr (.inl h)
      · exact .inl h
      · exact .inr (.inr h)
    · rintro (h | h | h)
      · exact .inr (.inl h)
      · exact .inl h
      · exact .inr (.inr h)
theorem St.under {S : Nat → Prop} {W w : World} {t : Thing} {L M : List Thing} (hLM : ∀ all, Things S W w L all → Things S W w M all) (h : St S W w (t :: L)) : St S W w (t :: M) := by
  obtain ⟨hm, all, fp, rest, h1, h2, h3, h4, h5⟩ := h
  exact ⟨hm, all, fp, rest, h1, hLM _ h2, h3, h4, h5⟩
theorem Things.swap {S : Nat → Prop} {W w : World} {t u : Thing} {L : List Thing} {all : Nat → Prop} (h : Things S W w (t :: u :: L) all) : Things S W w (u :: t :: L) all := by
  obtain ⟨fp, rest, h1, ⟨fp2, rest2, g1, g2, g3, g4, g5⟩, h3, h4, h5⟩ := h
  refine ⟨fp2, fun k => fp k ∨ rest2 k, g1, ⟨fp, rest2, h1, g2, ?_, fun k => Iff.rfl, h5⟩, ?_, ?_, g5⟩
  · intro k hk hr; exact h3 k hk ((g4 k).2 (.inr hr))
  · rintro k hk (hf | hr)
    · exact h3 k hf ((g4 k).2 (.inl hk))
    · exact g3 k hk hr
  · intro k
    rw [h4, g4]
    constructor
    · rintro (h | h | h)
      · exact .inr (.inl h)
      · exact .inl h
      · exact .inr (.inr h)
    · rintro (h | h | h)
      · exact .inr (.inl h)
      · exact .inl h
      · exact .inr (.inr h)
/-- the n-th one comes first -/
def pull : Nat → List Thing → List Thing
  | 0, L => L
  | n + 1, t :: L => match pull n L with
    | [] => t :: L
    | u :: M => u :: t :: M
  | _ + 1, [] => []
theorem Things.pull {S : Nat → Prop} {W w : World} : ∀ (n : Nat) {L : List Thing} {all : Nat → Prop}, Things S W w L all → Things S W w (pull n L) all
  | 0, L, _, h => by simpa [Go.Proofs.YtjdglpngcdcneaaGreat.pull] using h
  | n + 1, [], _, h => by simpa [Go.Proofs.YtjdglpngcdcneaaGreat.pull] using h
  | n + 1, t :: L, all, h => by
    obtain ⟨fp, rest, h1, h2, h3⟩ := h
    have h2' := Things.pull n h2
    unfold Go.Proofs.YtjdglpngcdcneaaGreat.pull
    cases hp : Go.Proofs.YtjdglpngcdcneaaGreat.pull n L with
    | nil => exact ⟨fp, rest, h1, h2, h3⟩
    | cons u M =>
      rw [hp] at h2'
      exact Things.swap ⟨fp, rest, h1, h2', h3⟩
theorem St.pull {S : Nat → Prop} {W w : World} {L : List Thing} (n : Nat) (h : St S W w L) : St S W w (pull n L) := ⟨h.turn, let ⟨all, ht⟩ := h.things; ⟨all, ht.pull n⟩⟩
/-- what the first one says -/
theorem St.head {S : Nat → Prop} {W w : World} {t : Thing} {L : List Thing} (h : St S W w (t :: L)) : ∃ fp, t.holds w fp := by
  obtain ⟨_, _, fp, _, h1, _⟩ := h; exact ⟨fp, h1⟩
/-- the first one told otherwise -/
theorem St.tell {S : Nat → Prop} {W w : World} {t t' : Thing} {L : List Thing} (h : St S W w (t :: L)) (ht : ∀ fp, t.holds w fp → t'.holds w fp) : St S W w (t' :: L) := by
  obtain ⟨hm, all, fp, rest, h1, h2⟩ := h; exact ⟨hm, all, fp, rest, ht fp h1, h2⟩
theorem St.ends {W w : World} {L : List Thing} (h : St noB W w L) : Ext W w := h.turn

/-- a block of cells, known whole -/
def blkT (b : Nat) (c : Array Value) (t : TypeId) : Thing where
  holds w fp := w.heap[b]? = some (.cells c t (0, 0)) ∧ fp = fun k => k = b
  keep h m hd := ⟨m.heap (hd _ (by rw [h.2])) h.1, h.2⟩
  lt h hk := by rw [h.2] at hk; cases hk; exact lt_of_block h.1
theorem St.blk {S : Nat → Prop} {W w : World} {b : Nat} {c : Array Value} {t : TypeId} {L : List Thing} (h : St S W w (blkT b c t :: L)) : w.heap[b]? = some (.cells c t (0, 0)) := by
  obtain ⟨fp, h1, _⟩ := h.head; exact h1
theorem St.alloc {S : Nat → Prop} {W w : World} {L : List Thing} (h : St S W w L) (c : Array Value) (t : TypeId) : St S W (w.alloc (.cells c t)) (blkT w.heap.size c t :: L) :=
  h.add ((Mut.refl _ _).alloc _) ⟨_, ⟨heap_alloc_self _ _, rfl⟩, fun k hk => by cases hk; exact Nat.le_refl _⟩
theorem St.set {S : Nat → Prop} {W w : World} {b : Nat} {c : Array Value} {t : TypeId} {L : List Thing} (h : St S W w (blkT b c t :: L)) (i : Nat) (v : Value) : St S W (w.setCell ⟨b, i, none⟩ v) (blkT b (c.setIfInBounds i v) t :: L) :=
  h.upd (fun fp h1 => ⟨fp, ⟨heap_setCell h1.1 i v, h1.2⟩, by rw [h1.2]; exact Mut.one_set b i v, fun k hk => .inl hk⟩)
theorem Mut.setRow {w : World} (b : Nat) (c : Array Value) : Mut (oneB b) w (w.setRow b c) := ⟨rfl, rfl, rfl, by simp, fun k _ hk => setRow_other w b k c hk⟩
theorem St.row {S : Nat → Prop} {W w : World} {b : Nat} {c : Array Value} {t : TypeId} {L : List Thing} (h : St S W w (blkT b c t :: L)) (c' : Array Value) : St S W (w.setRow b c') (blkT b c' t :: L) :=
  h.upd (fun fp h1 => ⟨fp, ⟨setRow_heap w b c c' t (0, 0) h1.1, h1.2⟩, by rw [h1.2]; exact Mut.setRow b c', fun k hk => .inl hk⟩)
/-- a slice that owns its row -/
def ownT (e : TypeId) (size : Nat) (v : Value) (n : Nat) (xs : List Value) : Thing where
  holds w fp := Own w e size v n xs ∧ fp = ownS v
  keep h m hd := ⟨h.1.keep m (fun k hk => hd k (by rw [h.2]; exact hk)), h.2⟩
  lt h hk := by rw [h.2] at hk; exact h.1.lt _ hk
theorem St.own {S : Nat → Prop} {W w : World} {e : TypeId} {size : Nat} {v : Value} {n : Nat} {xs : List Value} {L : List Thing} (h : St S W w (ownT e size v n xs :: L)) : Own w e size v n xs := by
  obtain ⟨fp, h1, _⟩ := h.head; exact h1
theorem St.nilOwn {S : Nat → Prop} {W w : World} {L : List Thing} (h : St S W w L) (e : TypeId) (size : Nat) : St S W w (ownT e size (.slice none 0 0) 0 [] :: L) :=
  h.add (Mut.refl _ _) ⟨_, ⟨Own.nil _ _ _, rfl⟩, fun k hk => by cases hk⟩
/-- behind an append -/
theorem St.appended {S : Nat → Prop} {W w w' : World} {e : TypeId} {size : Nat} {v v' : Value} {n m : Nat} {xs ys : List Value} {L : List Thing} (h : St S W w (ownT e size v n xs :: L))
    (ho : Own w' e size v' m ys) (hm : Mut (ownS v) w w') (hv : Moved w v v') : St S W w' (ownT e size v' m ys :: L) :=
  h.upd (fun fp h1 => ⟨ownS v', ⟨ho, rfl⟩, by rw [h1.2]; exact hm, fun k hk => by
    rw [h1.2]
    rcases hv with h | ⟨j, h, hj⟩
    · left; show v.ownBlock = some k; rw [← h]; exact hk
    · right; have hk' : v'.ownBlock = some k := hk
      rw [h] at hk'; cases hk'; exact hj⟩)
theorem Own.slice {w : World} {e : TypeId} {size : Nat} {v : Value} {n : Nat} {xs : List Value} (h : Own w e size v n xs) (hn : 0 < n) : ∃ g cap, v = .slice (some ⟨g, 0, none⟩) n cap ∧ g < w.heap.size ∧ n ≤ cap ∧ cap ≤ maxLen := by
  rcases h.2 with ⟨rfl, h0⟩ | ⟨g, cap, cur, rfl, _, hh, hc, hm, _⟩
  · omega
  · exact ⟨g, cap, rfl, lt_of_block hh, hc, hm⟩
theorem Own.cell {w : World} {e : TypeId} {size g n cap : Nat} {xs : List Value} (h : Own w e size (.slice (some ⟨g, 0, none⟩) n cap) n xs) (j : Nat) (hj : j < n * size) : w.cell? ⟨g, j, none⟩ = xs[j]? := World.ownsRow.cellAt h j hj
theorem Own.free {w : World} {e : TypeId} {size g n cap : Nat} {xs : List Value} (h : Own w e size (.slice (some ⟨g, 0, none⟩) n cap) n xs) (j : Nat) : w.frozen? ⟨g, j, none⟩ = false := World.ownsRow.frozenAt h j
theorem St.stored {S : Nat → Prop} {W w : World} {e : TypeId} {size g n cap : Nat} {xs : List Value} {L : List Thing} (h : St S W w (ownT e size (.slice (some ⟨g, 0, none⟩) n cap) n xs :: L)) (j : Nat) (u : Value) :
    St S W (w.setCell ⟨g, j, none⟩ u) (ownT e size (.slice (some ⟨g, 0, none⟩) n cap) n (xs.set j u) :: L) :=
  h.upd (fun fp h1 => ⟨fp, ⟨(World.ownsRow.stored h1.1 j u).1, h1.2⟩, by rw [h1.2]; exact (Mut.one_set g j u).mono (fun i _ hi => by have : i = g := hi; subst this; rfl), fun k hk => .inl hk⟩)
/-- a slice that was made: a new row -/
theorem St.made {S : Nat → Prop} {W w : World} {L : List Thing} (h : St S W w L) (e : TypeId) (size n cap : Nat) (c : Array Value) (hn : n ≤ cap) (hc : cap ≤ maxLen) (hs : c.size = cap * size) :
    St S W (w.alloc (.cells c e)) (ownT e size (.slice (some ⟨w.heap.size, 0, none⟩) n cap) n (c.toList.take (n * size)) :: L) :=
  h.add ((Mut.refl _ _).alloc _) ⟨_, ⟨⟨by rw [List.length_take, Array.length_toList, hs]; exact Nat.min_eq_left (Nat.mul_le_mul_right _ hn), .inr ⟨w.heap.size, cap, c, rfl, Nat.zero_le _, heap_alloc_self _ _, hn, hc, hs, rfl⟩⟩, rfl⟩, fun k hk => by cases hk; exact Nat.le_refl _⟩
end Go.Proofs.YtjdglpngcdcneaaGreat

/- What a law's row needs of the numbers that come in. -/
namespace Go.Proofs.YtjdglpngcdcneaaGreat
open Go.RowKit
theorem wf_u8 {a : Int} (h : (Lit.int .u8 a).wf = true) : ∃ n : Nat, a = n ∧ n < 256 := by
  have hmin : IntKind.u8.min = 0 := rfl
  have hmax : IntKind.u8.max = 255 := rfl
  simp only [Lit.wf, Bool.and_eq_true, decide_eq_true_eq, hmin, hmax] at h
  exact ⟨a.toNat, by omega, by omega⟩
theorem wf_u16 {a : Int} (h : (Lit.int .u16 a).wf = true) : ∃ n : Nat, a = n ∧ n < 65536 := by
  have hmin : IntKind.u16.min = 0 := rfl
  have hmax : IntKind.u16.max = 65535 := rfl
  simp only [Lit.wf, Bool.and_eq_true, decide_eq_true_eq, hmin, hmax] at h
  exact ⟨a.toNat, by omega, by omega⟩
theorem wf_u32 {a : Int} (h : (Lit.int .u32 a).wf = true) : ∃ n : Nat, a = n ∧ n < 4294967296 := by
  have hmin : IntKind.u32.min = 0 := rfl
  have hmax : IntKind.u32.max = 4294967295 := rfl
  simp only [Lit.wf, Bool.and_eq_true, decide_eq_true_eq, hmin, hmax] at h
  exact ⟨a.toNat, by omega, by omega⟩
theorem wf_u64 {a : Int} (h : (Lit.int .u64 a).wf = true) : ∃ n : Nat, a = n ∧ n < 18446744073709551616 := by
  have hmin : IntKind.u64.min = 0 := rfl
  have hmax : IntKind.u64.max = 18446744073709551615 := rfl
  simp only [Lit.wf, Bool.and_eq_true, decide_eq_true_eq, hmin, hmax] at h
  exact ⟨a.toNat, by omega, by omega⟩
theorem wf_i64 {a : Int} (h : (Lit.int .i64 a).wf = true) : -9223372036854775808 ≤ a ∧ a < 9223372036854775808 := by
  have hmin : IntKind.i64.min = -9223372036854775808 := rfl
  have hmax : IntKind.i64.max = 9223372036854775807 := rfl
  simp only [Lit.wf, Bool.and_eq_true, decide_eq_true_eq, hmin, hmax] at h
  omega
theorem wf_i8 {a : Int} (h : (Lit.int .i8 a).wf = true) : -128 ≤ a ∧ a < 128 := by
  have hmin : IntKind.i8.min = -128 := rfl
  have hmax : IntKind.i8.max = 127 := rfl
  simp only [Lit.wf, Bool.and_eq_true, decide_eq_true_eq, hmin, hmax] at h
  omega
end Go.Proofs.YtjdglpngcdcneaaGreat

/- Slices that came in, as lists: what a row's reading says of their cells. -/
namespace Go.Proofs.YtjdglpngcdcneaaGreat
open Go.RowKit Go.ChangeShapes Go.WideShapes Go.Deep
set_option linter.unusedVariables false

/-- 'len' elements from A on, each of 'size' cells: the list l -/
def ArgRow {α : Type} (rep : α → List Value → Prop) (size : Nat) (w : World) (A : Option Addr) (len : Nat) (l : List α) : Prop :=
  l.length = len ∧ (len = 0 ∨ ∃ b off, A = some ⟨b, off, none⟩ ∧ ∀ i a, l[i]? = some a → ∃ cs, rep a cs ∧ cs.length = size ∧ ∀ j v, cs[j]? = some v → w.cell? ⟨b, off + (i * size + j), none⟩ = some v)
theorem ArgRow.ext {α : Type} {rep : α → List Value → Prop} {size : Nat} {w w' : World} {A : Option Addr} {len : Nat} {l : List α} (h : ArgRow rep size w A len l) (x : Ext w w') : ArgRow rep size w' A len l := by
  refine ⟨h.1, ?_⟩
  rcases h.2 with h2 | ⟨b, off, hA, hc⟩
  · exact .inl h2
  · refine .inr ⟨b, off, hA, fun i a hi => ?_⟩
    obtain ⟨cs, h1, h2, h3⟩ := hc i a hi
    exact ⟨cs, h1, h2, fun j v hj => x.cell (h3 j v hj)⟩
theorem ArgRow.keep {α : Type} {rep : α → List Value → Prop} {size : Nat} {S : Nat → Prop} {w w' : World} {A : Option Addr} {len : Nat} {l : List α} (h : ArgRow rep size w A len l) (x : Mut S w w') (hS : ∀ b off, A = some ⟨b, off, none⟩ → ¬ S b) : ArgRow rep size w' A len l := by
  refine ⟨h.1, ?_⟩
  rcases h.2 with h2 | ⟨b, off, hA, hc⟩
  · exact .inl h2
  · refine .inr ⟨b, off, hA, fun i a hi => ?_⟩
    obtain ⟨cs, h1, h2, h3⟩ := hc i a hi
    exact ⟨cs, h1, h2, fun j v hj => x.cell (p := ⟨b, off + (i * size + j), none⟩) (hS b off hA) (h3 j v hj)⟩
theorem ArgRow.map {α β : Type} {rep : α → List Value → Prop} {rep' : β → List Value → Prop} {size : Nat} {w : World} {A : Option Addr} {len : Nat} {l : List α} (h : ArgRow rep size w A len l) (f : α → β) (hf : ∀ a cs, rep a cs → rep' (f a) cs) : ArgRow rep' size w A len (l.map f) := by
  refine ⟨by simpa using h.1, ?_⟩
  rcases h.2 with h2 | ⟨b, off, hA, hc⟩
  · exact .inl h2
  · refine .inr ⟨b, off, hA, fun i a hi => ?_⟩
    rw [List.getElem?_map] at hi
    obtain ⟨x, hx, rfl⟩ := Option.map_eq_some_iff.1 hi
    obtain ⟨cs, h1, h2, h3⟩ := hc i x hx
    exact ⟨cs, hf _ _ h1, h2, h3⟩

theorem World.cell?_spot' {w : World} {b off : Nat} {spot : Option Nat} {v : Value} (h : w.cell? ⟨b, off, spot⟩ = some v) : spot = none := by
  unfold World.cell? at h
  split at h
  · cases spot with
    | none => rfl
    | some x => simp at h
  · cases h
section
variable {H : Type} {enc : TypeId × Value → H} {P : Program} {w : World} {base : Nat} {spare : Nat → Bool} {held : Bool}
/-- a slice that came in, by what its elements read as -/
theorem arg_of_trod {α : Type} (rep : α → List Value → Prop) (size : Nat) {t e : TypeId} {fuel : Nat} {A : Option Addr} {len cap : Nat} {x : DataW H × List MemPlace}
    (ht : P.underlying t = some (.slice e)) (hsz : P.cellsOf e = size) (hpos : 0 < size)
    (hrep : ∀ (n : Nat) (cs : List Value) (y : DataW H × List MemPlace), cs.length = size → DataW.trod enc P w base spare held n e cs = some y → ∃ a, rep a cs)
    (h : DataW.trod enc P w base spare held fuel t [.slice A len cap] = some x) : ∃ l, ArgRow rep size w A len l ∧ len ≤ 9223372036854775807 := by
  rcases open_slice ht h with ⟨hcs, _⟩ | ⟨a, len', cap', m, n, D, Pl, hcs, hb, hl, hm, hmm, hx, hi⟩
  · simp at hcs
    obtain ⟨rfl, rfl, rfl⟩ := hcs
    exact ⟨[], ⟨rfl, .inl rfl⟩, by omega⟩
  · simp at hcs
    obtain ⟨rfl, rfl, rfl⟩ := hcs
    have hml : len ≤ m := by rw [hmm]; split <;> omega
    have hone : ∀ i, i < len → ∃ a' cs, rep a' cs ∧ cs.length = size ∧ ∀ j v, cs[j]? = some v → w.cell? ((a.add (i * size)).add j) = some v := by
      intro i hil
      obtain ⟨cs', hc, ht'⟩ := hi i (by omega)
      rw [hsz] at hc
      obtain ⟨_, hcl, hat⟩ := World.cells?_some hc
      obtain ⟨a', ha'⟩ := hrep n cs' _ hcl ht'
      refine ⟨a', cs', ha', hcl, fun j v hj => ?_⟩
      have hjl : j < size := by
        rcases Nat.lt_or_ge j cs'.length with h | h
        · omega
        · rw [List.getElem?_eq_none h] at hj; cases hj
      rw [hat j hjl]; exact hj
    have hlist : ∀ k, k ≤ len → ∃ l : List α, l.length = k ∧ ∀ i a', l[i]? = some a' → ∃ cs, rep a' cs ∧ cs.length = size ∧ ∀ j v, cs[j]? = some v → w.cell? ((a.add (i * size)).add j) = some v := by
      intro k
      induction k with
      | zero => exact fun _ => ⟨[], rfl, fun i a' hi => by simp at hi⟩
      | succ k ih =>
        intro hk
        obtain ⟨l, hl1, hl2⟩ := ih (by omega)
        obtain ⟨a', cs, h1, h2, h3⟩ := hone k (by omega)
        refine ⟨l ++ [a'], by simp [hl1], fun i b hi => ?_⟩
        rcases Nat.lt_or_ge i k with hik | hik
        · rw [List.getElem?_append_left (by omega)] at hi; exact hl2 i b hi
        · rw [List.getElem?_append_right (by omega)] at hi
          have : i = k := by
            rcases Nat.lt_or_ge (i - l.length) 1 with h | h
            · omega
            · rw [List.getElem?_eq_none (by simpa using h)] at hi; cases hi
          subst this
          rw [hl1, Nat.sub_self] at hi
          simp at hi
          subst hi
          exact ⟨cs, h1, h2, h3⟩
    obtain ⟨l, hl1, hl2⟩ := hlist len (Nat.le_refl _)
    refine ⟨l, ⟨hl1, ?_⟩, by unfold maxLen at hm; omega⟩
    rcases Nat.eq_zero_or_pos len with h0 | h0
    · exact .inl h0
    · right
      obtain ⟨b, off, spot⟩ := a
      have hspot : spot = none := by
        obtain ⟨cs, h1, h2, h3⟩ := hl2 0 l[0] (List.getElem?_eq_getElem (by omega))
        have h4 := h3 0 cs[0] (List.getElem?_eq_getElem (by omega))
        rw [Nat.zero_mul] at h4
        exact World.cell?_spot' (w := w) (b := b) (off := off) (by simpa [Addr.add] using h4)
      subst hspot
      refine ⟨b, off, rfl, fun i a' hi => ?_⟩
      obtain ⟨cs, h1, h2, h3⟩ := hl2 i a' hi
      refine ⟨cs, h1, h2, fun j v hj => ?_⟩
      have h4 := h3 j v hj
      rw [Go.WideShapes.add_plain, Go.WideShapes.add_plain, Nat.add_assoc] at h4
      exact h4
/-- a struct's cells, each read by its field's type -/
theorem cells_of_struct {t : TypeId} {fs : Array Field} {fuel : Nat} {cs : List Value} {x : DataW H × List MemPlace} (ht : P.underlying t = some (.struct fs)) (hone : oneCellFields P fs = true) (hC : P.cellsOf t = fs.size)
    (h : DataW.trod enc P w base spare held fuel t cs = some x) : cs.length = fs.size ∧ ∀ (j : Nat) (f : Field), fs[j]? = some f → ∃ v y n, cs[j]? = some v ∧ DataW.trod enc P w base spare held n f.type [v] = some y := by
  obtain ⟨ys, n, _, hx, hlen, hyl, hf⟩ := DataW.trod_struct ht h
  rw [hC] at hlen
  refine ⟨hlen, fun j f hj => ?_⟩
  obtain ⟨ho, hk⟩ := hone_of hone j f hj
  have hjl : j < fs.size := (Array.getElem?_eq_some_iff.1 hj).1
  have h1 := hf j f hj
  rw [ho, hk] at h1
  have hone' : (cs.drop j).take 1 = [cs[j]'(by omega)] := by
    rw [List.drop_eq_getElem_cons (by omega)]
    rfl
  rw [hone'] at h1
  have hys : ys[j]? = some (ys[j]'(by omega)) := List.getElem?_eq_getElem (by omega)
  exact ⟨_, _, n, List.getElem?_eq_getElem (by omega), h1.trans hys⟩
end
/-- elements of one cell -/
def repU (k : IntKind) (B : Nat) (n : Nat) (cs : List Value) : Prop := cs = [.int k n] ∧ n < B
def repI (k : IntKind) (lo hi : Int) (n : Int) (cs : List Value) : Prop := cs = [.int k n] ∧ lo ≤ n ∧ n < hi
def repS (s : ByteArray) (cs : List Value) : Prop := cs = [.string s] ∧ s.size ≤ maxLen
section
variable {H : Type} {enc : TypeId × Value → H} {P : Program} {w : World} {base : Nat} {spare : Nat → Bool} {held : Bool}
theorem repU_u64 {e : TypeId} (he : P.underlying e = some (.int .u64)) (n : Nat) (cs : List Value) (y : DataW H × List MemPlace) (_ : cs.length = 1) (h : DataW.trod enc P w base spare held n e cs = some y) : ∃ a, repU .u64 18446744073709551616 a cs := by
  obtain ⟨v, rfl, _, hw⟩ := DataW.trod_int he h
  obtain ⟨m, rfl, hm⟩ := wf_u64 hw
  exact ⟨m, rfl, hm⟩
theorem repU_u32 {e : TypeId} (he : P.underlying e = some (.int .u32)) (n : Nat) (cs : List Value) (y : DataW H × List MemPlace) (_ : cs.length = 1) (h : DataW.trod enc P w base spare held n e cs = some y) : ∃ a, repU .u32 4294967296 a cs := by
  obtain ⟨v, rfl, _, hw⟩ := DataW.trod_int he h
  obtain ⟨m, rfl, hm⟩ := wf_u32 hw
  exact ⟨m, rfl, hm⟩
theorem repU_u8 {e : TypeId} (he : P.underlying e = some (.int .u8)) (n : Nat) (cs : List Value) (y : DataW H × List MemPlace) (_ : cs.length = 1) (h : DataW.trod enc P w base spare held n e cs = some y) : ∃ a, repU .u8 256 a cs := by
  obtain ⟨v, rfl, _, hw⟩ := DataW.trod_int he h
  obtain ⟨m, rfl, hm⟩ := wf_u8 hw
  exact ⟨m, rfl, hm⟩
theorem repI_i64 {e : TypeId} (he : P.underlying e = some (.int .i64)) (n : Nat) (cs : List Value) (y : DataW H × List MemPlace) (_ : cs.length = 1) (h : DataW.trod enc P w base spare held n e cs = some y) : ∃ a, repI .i64 (-9223372036854775808) 9223372036854775808 a cs := by
  obtain ⟨v, rfl, _, hw⟩ := DataW.trod_int he h
  exact ⟨v, rfl, wf_i64 hw⟩
theorem repI_i8 {e : TypeId} (he : P.underlying e = some (.int .i8)) (n : Nat) (cs : List Value) (y : DataW H × List MemPlace) (_ : cs.length = 1) (h : DataW.trod enc P w base spare held n e cs = some y) : ∃ a, repI .i8 (-128) 128 a cs := by
  obtain ⟨v, rfl, _, hw⟩ := DataW.trod_int he h
  exact ⟨v, rfl, wf_i8 hw⟩
theorem repS_str {e : TypeId} (he : P.underlying e = some .string) (n : Nat) (cs : List Value) (y : DataW H × List MemPlace) (_ : cs.length = 1) (h : DataW.trod enc P w base spare held n e cs = some y) : ∃ a, repS a cs := by
  obtain ⟨s, rfl, _, hw⟩ := DataW.trod_string he h
  exact ⟨s, rfl, hw⟩
end
/-- element i of a slice of numbers that came in -/
theorem ArgRow.getU {k : IntKind} {B : Nat} {w : World} {A : Option Addr} {len : Nat} {l : List Nat} (h : ArgRow (repU k B) 1 w A len l) (i : Nat) (hi : i < len) : ∃ b off, A = some ⟨b, off, none⟩ ∧ w.cell? ⟨b, off + i, none⟩ = some (.int k (l.getD i 0 : Nat)) ∧ l.getD i 0 < B := by
  rcases h.2 with h2 | ⟨b, off, hA, hc⟩
  · omega
  · have hl : i < l.length := by rw [h.1]; exact hi
    obtain ⟨cs, ⟨rfl, hB⟩, h2, h3⟩ := hc i l[i] (List.getElem?_eq_getElem hl)
    have h4 := h3 0 _ rfl
    have hg : l.getD i 0 = l[i] := by rw [List.getD_eq_getElem?_getD, List.getElem?_eq_getElem hl]; rfl
    rw [hg]
    exact ⟨b, off, hA, by simpa using h4, hB⟩
theorem ArgRow.getI {k : IntKind} {lo hi' : Int} {w : World} {A : Option Addr} {len : Nat} {l : List Int} (h : ArgRow (repI k lo hi') 1 w A len l) (i : Nat) (hi : i < len) : ∃ b off, A = some ⟨b, off, none⟩ ∧ w.cell? ⟨b, off + i, none⟩ = some (.int k (l.getD i 0)) ∧ lo ≤ l.getD i 0 ∧ l.getD i 0 < hi' := by
  rcases h.2 with h2 | ⟨b, off, hA, hc⟩
  · omega
  · have hl : i < l.length := by rw [h.1]; exact hi
    obtain ⟨cs, ⟨rfl, hB⟩, h2, h3⟩ := hc i l[i] (List.getElem?_eq_getElem hl)
    have h4 := h3 0 _ rfl
    have hg : l.getD i 0 = l[i] := by rw [List.getD_eq_getElem?_getD, List.getElem?_eq_getElem hl]; rfl
    rw [hg]
    exact ⟨b, off, hA, by simpa using h4, hB⟩
theorem ArgRow.getS {w : World} {A : Option Addr} {len : Nat} {l : List ByteArray} (h : ArgRow repS 1 w A len l) (i : Nat) (hi : i < len) : ∃ b off, A = some ⟨b, off, none⟩ ∧ w.cell? ⟨b, off + i, none⟩ = some (.string (l.getD i ByteArray.empty)) ∧ (l.getD i ByteArray.empty).size ≤ maxLen := by
  rcases h.2 with h2 | ⟨b, off, hA, hc⟩
  · omega
  · have hl : i < l.length := by rw [h.1]; exact hi
    obtain ⟨cs, ⟨rfl, hB⟩, h2, h3⟩ := hc i l[i] (List.getElem?_eq_getElem hl)
    have h4 := h3 0 _ rfl
    have hg : l.getD i ByteArray.empty = l[i] := by rw [List.getD_eq_getElem?_getD, List.getElem?_eq_getElem hl]; rfl
    rw [hg]
    exact ⟨b, off, hA, by simpa using h4, hB⟩
theorem ArgRow.getU1 {k : IntKind} {B : Nat} {w : World} {b off : Nat} {len : Nat} {l : List Nat} (h : ArgRow (repU k B) 1 w (some ⟨b, off, none⟩) len l) (i : Nat) (hi : i < len) : w.cell? ⟨b, off + i, none⟩ = some (.int k (l.getD i 0 : Nat)) := by
  obtain ⟨b', off', e, h1, _⟩ := h.getU i hi
  cases e; exact h1
theorem ArgRow.getI1 {k : IntKind} {lo hi' : Int} {w : World} {b off : Nat} {len : Nat} {l : List Int} (h : ArgRow (repI k lo hi') 1 w (some ⟨b, off, none⟩) len l) (i : Nat) (hi : i < len) : w.cell? ⟨b, off + i, none⟩ = some (.int k (l.getD i 0)) := by
  obtain ⟨b', off', e, h1, _⟩ := h.getI i hi
  cases e; exact h1
theorem ArgRow.getS1 {w : World} {b off : Nat} {len : Nat} {l : List ByteArray} (h : ArgRow repS 1 w (some ⟨b, off, none⟩) len l) (i : Nat) (hi : i < len) : w.cell? ⟨b, off + i, none⟩ = some (.string (l.getD i ByteArray.empty)) := by
  obtain ⟨b', off', e, h1, _⟩ := h.getS i hi
  cases e; exact h1
end Go.Proofs.YtjdglpngcdcneaaGreat

/- Things put together of things. -/
namespace Go.Proofs.YtjdglpngcdcneaaGreat
open Go.RowKit
set_option linter.unusedVariables false

theorem Things.any {S R : Nat → Prop} {W V w : World} : ∀ {L : List Thing} {all : Nat → Prop}, Things S W w L all → (∀ k, all k → R k ∨ V.heap.size ≤ k) → Things R V w L all
  | [], _, h, _ => h
  | t :: L, all, ⟨fp, rest, h1, h2, h3, h4, h5⟩, hR =>
    ⟨fp, rest, h1, Things.any h2 (fun k hk => hR k ((h4 k).2 (.inr hk))), h3, h4, fun k hk => hR k ((h4 k).2 (.inl hk))⟩
theorem Things.within {S : Nat → Prop} {W w : World} : ∀ {L : List Thing} {all : Nat → Prop}, Things S W w L all → ∀ k, all k → S k ∨ W.heap.size ≤ k
  | [], _, h, k, hk => (h k hk).elim
  | t :: L, all, ⟨fp, rest, h1, h2, h3, h4, h5⟩, k, hk => by
    rcases (h4 k).1 hk with h | h
    · exact h5 k h
    · exact Things.within h2 k h
theorem Things.append {S : Nat → Prop} {W w : World} : ∀ {L M : List Thing} {p q : Nat → Prop}, Things S W w L p → Things S W w M q → (∀ k, p k → ¬ q k) → Things S W w (L ++ M) (fun k => p k ∨ q k)
  | [], M, p, q, hp, hq, hd => by
    have : (fun k => p k ∨ q k) = q := by funext k; simp [hp k]
    rw [this]; exact hq
  | t :: L, M, p, q, ⟨fp, rest, h1, h2, h3, h4, h5⟩, hq, hd =>
    ⟨fp, fun k => rest k ∨ q k, h1, Things.append h2 hq (fun k hk => hd k ((h4 k).2 (.inr hk))), fun k hk hr => by
      rcases hr with hr | hr
      · exact h3 k hk hr
      · exact hd k ((h4 k).2 (.inl hk)) hr, fun k => by show p k ∨ q k ↔ fp k ∨ (rest k ∨ q k); rw [h4, or_assoc], h5⟩
theorem Things.split {S : Nat → Prop} {W w : World} : ∀ {L M : List Thing} {all : Nat → Prop}, Things S W w (L ++ M) all → ∃ p q, Things S W w L p ∧ Things S W w M q ∧ (∀ k, p k → ¬ q k) ∧ (∀ k, all k ↔ p k ∨ q k)
  | [], M, all, h => ⟨fun _ => False, all, fun _ f => f, h, fun _ f => f.elim, fun k => by simp⟩
  | t :: L, M, all, ⟨fp, rest, h1, h2, h3, h4, h5⟩ => by
    obtain ⟨p, q, g1, g2, g3, g4⟩ := Things.split h2
    refine ⟨fun k => fp k ∨ p k, q, ⟨fp, p, h1, g1, fun k hk hp => h3 k hk ((g4 k).2 (.inl hp)), fun k => Iff.rfl, h5⟩, g2, ?_, ?_⟩
    · rintro k (hk | hk) hq
      · exact h3 k hk ((g4 k).2 (.inr hq))
      · exact g3 k hk hq
    · intro k; rw [h4, g4, or_assoc]
theorem Things.ext_all {S : Nat → Prop} {W w : World} {L : List Thing} {p q : Nat → Prop} (h : Things S W w L p) (e : ∀ k, q k ↔ p k) : Things S W w L q := by
  have : q = p := by funext k; exact propext (e k)
  rw [this]; exact h
/-- a row and a block are two -/
theorem St.ne {S : Nat → Prop} {W w : World} {e : TypeId} {size g n m cap b : Nat} {xs : List Value} {c : Array Value} {t : TypeId} {L : List Thing} (h : St S W w (ownT e size (.slice (some ⟨g, 0, none⟩) n cap) m xs :: blkT b c t :: L)) : g ≠ b := by
  obtain ⟨hm, all, fp, rest, ⟨_, rfl⟩, ⟨fp2, rest2, ⟨_, rfl⟩, _, _, g4, _⟩, h3, _⟩ := h
  intro e
  exact h3 g rfl ((g4 g).2 (.inl e))
/-- one thing that is some list of things -/
def allT {α : Type} (f : α → List Thing) : Thing where
  holds w fp := ∃ a, Things (fun _ => True) w w (f a) fp
  keep h m hd := by
    obtain ⟨a, h⟩ := h
    exact ⟨a, (h.keep m hd).any (fun k _ => .inl trivial)⟩
  lt h hk := by
    obtain ⟨a, h⟩ := h
    exact h.lt _ hk
theorem St.open {α : Type} {f : α → List Thing} {S : Nat → Prop} {W w : World} {L : List Thing} (h : St S W w (allT f :: L)) : ∃ a, St S W w (f a ++ L) := by
  obtain ⟨hm, all, fp, rest, ⟨a, h1⟩, h2, h3, h4, h5⟩ := h
  exact ⟨a, hm, _, (h1.any (fun k hk => h5 k hk)).append h2 h3⟩
theorem St.close {α : Type} {f : α → List Thing} {S : Nat → Prop} {W w : World} {L : List Thing} (a : α) (h : St S W w (f a ++ L)) : St S W w (allT f :: L) := by
  obtain ⟨hm, all, h⟩ := h
  obtain ⟨p, q, g1, g2, g3, g4⟩ := h.split
  exact ⟨hm, all, p, q, ⟨a, g1.any (fun _ _ => .inl trivial)⟩, g2, g3, g4, g1.within⟩
end Go.Proofs.YtjdglpngcdcneaaGreat

/- One more behind a slice; slices of numbers. -/
namespace Go.Proofs.YtjdglpngcdcneaaGreat
open Go.RowKit Go.WideShapes
set_option linter.unusedVariables false
set_option linter.unusedSimpArgs false
set_option linter.unusedSectionVars false
section
variable {P : Program}
theorem wpList_push {ops : Array Oper} {rest : List Oper} {o : Oper} {a : Act} {Q : Exit → Act → World → Prop} (hgd : o.guard = none) (s x : Operand) (t : TypeId)
    (ho : o.op = .call { callee := .builtin .append, args := #[s, x], argTypes := #[t, t] })
    (e : TypeId) (z : Value) (size bytes : Nat) (ht : P.underlying t = some (.slice e)) (hinfo : (P.info? e).map (fun i => (i.zero, i.size, i.bytes)) = some (some z, size, bytes)) (hzs : z.cells.size = size) (hsz : 0 < size)
    {S : Nat → Prop} {W w0 : World} {v : Value} {n : Nat} {xs : List Value} {L : List Thing} (h : St S W w0 (ownT e size v n xs :: L)) {news : Array Value} {bt : TypeId}
    (hs : a.eval s = v) (hx : a.eval x = .slice (some ⟨w0.heap.size, 0, none⟩) 1 1) (hn : news.size = size) (h1 : ∀ u ∈ news.toList, u.oneCell' = true)
    (h63 : n + 1 ≤ maxLen) (hbytes : (n + 1) * bytes ≤ 140737488355328)
    (hk : ∀ A' c' w', St S W w' (ownT e size (.slice A' (n + 1) c') (n + 1) (xs ++ news.toList) :: L) → wpList P ops Q rest (a.put o.dst (.slice A' (n + 1) c')) w') : wpList P ops Q (o :: rest) a (w0.alloc (.cells news bt)) := by
  have h2 := h.alloc news bt
  have hb := h2.blk
  have h3 := h2.swap
  refine wpList_append _ hgd s x t ho e z size bytes ht hinfo hzs hsz v n xs hs h3.own ⟨w0.heap.size, 0, none⟩ 1 1 news.toList hx (by simpa using hn) (fun j u hj => ?_) h1 h63 hbytes ?_
  · rw [add_plain, Nat.zero_add, cell_of_heap hb]; simpa using hj
  · intro v' w' hown hm hv
    obtain ⟨A', c', rfl⟩ := hown.form
    exact hk A' c' w' (h3.appended hown hm hv).swap.drop
/-- at a step of a region that draws its order -/
theorem step_push {ops : Array Oper} {o : Oper} {a : Act} {K : Act → World → Prop} {Q : Exit → Act → World → Prop} {E : Prop} (hgd : o.guard = none) (s x : Operand) (t : TypeId)
    (ho : o.op = .call { callee := .builtin .append, args := #[s, x], argTypes := #[t, t] })
    (e : TypeId) (z : Value) (size bytes : Nat) (ht : P.underlying t = some (.slice e)) (hinfo : (P.info? e).map (fun i => (i.zero, i.size, i.bytes)) = some (some z, size, bytes)) (hzs : z.cells.size = size) (hsz : 0 < size)
    {S : Nat → Prop} {W w0 : World} {v : Value} {n : Nat} {xs : List Value} {L : List Thing} (h : St S W w0 (ownT e size v n xs :: L)) {news : Array Value} {bt : TypeId}
    (hs : a.eval s = v) (hx : a.eval x = .slice (some ⟨w0.heap.size, 0, none⟩) 1 1) (hn : news.size = size) (h1 : ∀ u ∈ news.toList, u.oneCell' = true)
    (h63 : n + 1 ≤ maxLen) (hbytes : (n + 1) * bytes ≤ 140737488355328)
    (hK : ∀ A' c' w', St S W w' (ownT e size (.slice A' (n + 1) c') (n + 1) (xs ++ news.toList) :: L) → K (a.put o.dst (.slice A' (n + 1) c')) w') :
    if Region.wanted o (yielded ops a.tmps) = true then Oper.wp P o a (w0.alloc (.cells news bt)) K Q else E := by
  have hw : Region.wanted o (yielded ops a.tmps) = true := by simp [Region.wanted, hgd]
  rw [if_pos hw]
  have h2 := h.alloc news bt
  have hb := h2.blk
  have h3 := h2.swap
  obtain ⟨i, hi, hz, hsize, hby⟩ := info_parts hinfo
  obtain ⟨v', w', hr, g2, g3, g4⟩ := run_append_moved (P := P) (w0.alloc (.cells news bt)) t o.type e i z size bytes ht hi hz hsize hby hzs hsz v n xs h3.own ⟨w0.heap.size, 0, none⟩ 1 1 news.toList (by simpa using hn) (fun j u hj => by
    rw [add_plain, Nat.zero_add, cell_of_heap hb]; simpa using hj) h1 h63 hbytes
  obtain ⟨A', c', rfl⟩ := g2.form
  unfold Oper.wp execOp
  simp only [ho, resolve, invoke, builtin, Sem.run_bind, Sem.run_pure, Result.andThen_ok, List.map_toArray, List.map_cons, List.map_nil, hs, hx, hr]
  exact hK A' c' w' (h3.appended g2 g3 g4).swap.drop
/-- the same, with what a call itself made -/
theorem wpList_push2 {ops : Array Oper} {rest : List Oper} {o : Oper} {a : Act} {Q : Exit → Act → World → Prop} (hgd : o.guard = none) (s x : Operand) (t : TypeId)
    (ho : o.op = .call { callee := .builtin .append, args := #[s, x], argTypes := #[t, t] })
    (e : TypeId) (z : Value) (size bytes : Nat) (ht : P.underlying t = some (.slice e)) (hinfo : (P.info? e).map (fun i => (i.zero, i.size, i.bytes)) = some (some z, size, bytes)) (hzs : z.cells.size = size) (hsz : 0 < size)
    {S : Nat → Prop} {W w0 : World} {v : Value} {n : Nat} {xs : List Value} {L : List Thing} (h : St S W w0 (ownT e size v n xs :: L)) {W2 : World} {L2 : List Thing} (g : St noB W2 w0 (ownT e size v n xs :: L2)) {news : Array Value} {bt : TypeId}
    (hs : a.eval s = v) (hx : a.eval x = .slice (some ⟨w0.heap.size, 0, none⟩) 1 1) (hn : news.size = size) (h1 : ∀ u ∈ news.toList, u.oneCell' = true)
    (h63 : n + 1 ≤ maxLen) (hbytes : (n + 1) * bytes ≤ 140737488355328)
    (hk : ∀ A' c' w', St S W w' (ownT e size (.slice A' (n + 1) c') (n + 1) (xs ++ news.toList) :: L) → St noB W2 w' (ownT e size (.slice A' (n + 1) c') (n + 1) (xs ++ news.toList) :: L2) → wpList P ops Q rest (a.put o.dst (.slice A' (n + 1) c')) w') : wpList P ops Q (o :: rest) a (w0.alloc (.cells news bt)) := by
  have h2 := h.alloc news bt
  have hb := h2.blk
  have h3 := h2.swap
  refine wpList_append _ hgd s x t ho e z size bytes ht hinfo hzs hsz v n xs hs h3.own ⟨w0.heap.size, 0, none⟩ 1 1 news.toList hx (by simpa using hn) (fun j u hj => ?_) h1 h63 hbytes ?_
  · rw [add_plain, Nat.zero_add, cell_of_heap hb]; simpa using hj
  · intro v' w' hown hm hv
    obtain ⟨A', c', rfl⟩ := hown.form
    exact hk A' c' w' (h3.appended hown hm hv).swap.drop (((g.alloc news bt).swap).appended hown hm hv).swap.drop
/-- all of a slice behind a slice that the call owns -/
theorem wpList_pushAll {ops : Array Oper} {rest : List Oper} {o : Oper} {a : Act} {Q : Exit → Act → World → Prop} (hgd : o.guard = none) (s x : Operand) (t : TypeId)
    (ho : o.op = .call { callee := .builtin .append, args := #[s, x], argTypes := #[t, t] })
    (e : TypeId) (z : Value) (size bytes : Nat) (ht : P.underlying t = some (.slice e)) (hinfo : (P.info? e).map (fun i => (i.zero, i.size, i.bytes)) = some (some z, size, bytes)) (hzs : z.cells.size = size) (hsz : 0 < size)
    {S : Nat → Prop} {W w : World} {v : Value} {n : Nat} {xs : List Value} {L : List Thing} (h : St S W w (ownT e size v n xs :: L)) {W2 : World} {L2 : List Thing} (g : St noB W2 w (ownT e size v n xs :: L2))
    (A : Option Addr) (m c : Nat) (news : List Value) (hs : a.eval s = v) (hx : a.eval x = .slice A m c) (hn : news.length = m * size) (hnil : A = none → m = 0)
    (hc : ∀ ad, A = some ad → ∀ j u, news[j]? = some u → w.cell? (ad.add j) = some u) (h1 : ∀ u ∈ news, u.oneCell' = true)
    (h63 : n + m ≤ maxLen) (hbytes : (n + m) * bytes ≤ 140737488355328)
    (hk : ∀ A' c' w', St S W w' (ownT e size (.slice A' (n + m) c') (n + m) (xs ++ news) :: L) → St noB W2 w' (ownT e size (.slice A' (n + m) c') (n + m) (xs ++ news) :: L2) → wpList P ops Q rest (a.put o.dst (.slice A' (n + m) c')) w') : wpList P ops Q (o :: rest) a w := by
  cases A with
  | none =>
    obtain rfl := hnil rfl
    obtain rfl : news = [] := List.eq_nil_of_length_eq_zero (by omega)
    obtain ⟨A0, c0, rfl⟩ := h.own.form
    refine wpList_append_none w hgd s x t ho e z size bytes ht hinfo (.slice A0 n c0) n xs hs h.own c hx ?_
    have := hk A0 c0 w
    simp only [List.append_nil, Nat.add_zero] at this
    exact this h g
  | some ad =>
    refine wpList_append w hgd s x t ho e z size bytes ht hinfo hzs hsz v n xs hs h.own ad m c news hx hn (hc ad rfl) h1 h63 hbytes ?_
    intro v' w' hown hm hv
    obtain ⟨A', c', rfl⟩ := hown.form
    exact hk A' c' w' (h.appended hown hm hv) (g.appended hown hm hv)
end
/-- numbers' cells -/
def numsV (l : List Nat) : List Value := l.map fun n : Nat => .int .u64 (n : Int)
theorem numsV_len (l : List Nat) : (numsV l).length = l.length := by simp [numsV]
theorem numsV_append (l m : List Nat) : numsV (l ++ m) = numsV l ++ numsV m := by simp [numsV]
theorem numsV_get (l : List Nat) (i : Nat) (h : i < l.length) : (numsV l)[i]? = some (.int .u64 (l.getD i 0 : Nat)) := by simp [numsV, h]
theorem numsV_set (l : List Nat) (i n : Nat) : (numsV l).set i (.int .u64 n) = numsV (l.set i n) := by simp [numsV, List.map_set]
theorem numsV_one (l : List Nat) : ∀ u ∈ numsV l, u.oneCell' = true := by
  intro u hu; simp only [numsV, List.mem_map] at hu; obtain ⟨c, _, rfl⟩ := hu; rfl
theorem zeros (n : Nat) : madeCells #[Value.int .u64 0] n = (numsV (List.replicate n 0)).toArray := by
  apply Array.toList_inj.1
  rw [toList_madeCells_one]
  simp [numsV]
theorem u64_info : (Tryz.prog.info? 34).map (fun i => (i.zero, i.size, i.bytes)) = some (some (.int .u64 0), 1, 8) := by kernel_rfl
/-- a slice of numbers -/
abbrev nlT (v : Value) (l : List Nat) : Thing := ownT 34 1 v l.length (numsV l)
theorem Own.numAt {w : World} {A : Option Addr} {n cap : Nat} {l : List Nat} (h : Own w 34 1 (.slice A n cap) n (numsV l)) (hl : l.length = n) (i : Nat) (hi : i < n) : ∃ g, A = some ⟨g, 0, none⟩ ∧ w.cell? ⟨g, i, none⟩ = some (.int .u64 (l.getD i 0 : Nat)) := by
  obtain ⟨g, c, e, _⟩ := h.slice (by omega)
  cases e
  exact ⟨g, rfl, by rw [Own.cell h i (by omega), numsV_get l i (by omega)]⟩
/-- numbers in memory -/
def NRow (w : World) (A : Option Addr) (l : List Nat) : Prop := ∀ i, i < l.length → ∃ b off, A = some ⟨b, off, none⟩ ∧ w.cell? ⟨b, off + i, none⟩ = some (.int .u64 (l.getD i 0 : Nat))
theorem NRow.ext {w w' : World} {A : Option Addr} {l : List Nat} (h : NRow w A l) (x : Ext w w') : NRow w' A l := fun i hi => by
  obtain ⟨b, off, e, hc⟩ := h i hi
  exact ⟨b, off, e, x.cell hc⟩
theorem Own.nrow {w : World} {A : Option Addr} {n cap : Nat} {l : List Nat} (h : Own w 34 1 (.slice A n cap) n (numsV l)) (hl : l.length = n) : NRow w A l := by
  intro i hi
  obtain ⟨g, e, hc⟩ := h.numAt hl i (by omega)
  exact ⟨g, 0, e, by rw [Nat.zero_add]; exact hc⟩
theorem ArgRow.nrow {w : World} {A : Option Addr} {len : Nat} {l : List Nat} {B : Nat} (h : ArgRow (repU .u64 B) 1 w A len l) : NRow w A l := by
  intro i hi
  obtain ⟨b, off, e, hc, _⟩ := h.getU i (by rw [← h.1]; exact hi)
  exact ⟨b, off, e, hc⟩
theorem ArgRow.small {k : IntKind} {w : World} {A : Option Addr} {len : Nat} {l : List Nat} {B : Nat} (h : ArgRow (repU k B) 1 w A len l) : ∀ i, i < len → l.getD i 0 < B := by
  intro i hi
  obtain ⟨b, off, e, hc, hb⟩ := h.getU i hi
  exact hb
/-- a list of numbers, as what may be appended -/
theorem NRow.cells {w : World} {A : Option Addr} {l : List Nat} (h : NRow w A l) : ∀ ad, A = some ad → ∀ j u, (numsV l)[j]? = some u → w.cell? (ad.add j) = some u := by
  intro ad e j u hj
  rcases Nat.lt_or_ge j l.length with hl | hl
  · obtain ⟨b, off, e2, hc⟩ := h j hl
    rw [e] at e2
    cases e2
    rw [numsV_get l j hl] at hj
    cases hj
    rw [add_plain]; exact hc
  · rw [List.getElem?_eq_none (by rw [numsV_len]; exact hl)] at hj; cases hj
theorem NRow.none {w : World} {A : Option Addr} {l : List Nat} (h : NRow w A l) : A = Option.none → l.length = 0 := by
  intro e
  rcases Nat.eq_zero_or_pos l.length with h0 | h0
  · exact h0
  · obtain ⟨b, off, e2, hc⟩ := h 0 h0
    rw [e] at e2; cases e2
end Go.Proofs.YtjdglpngcdcneaaGreat

/- A region that draws its order and has few orders: each is a walk of its own. -/
namespace Go.Proofs.YtjdglpngcdcneaaGreat
open Go.RowKit
set_option linter.unusedVariables false
/-- what each operation waits for -/
def waits (ops : Array Oper) : List (List Nat) := ops.toList.map fun o => (o.after.toList.filter fun e => Region.binds .any e).map (·.on)
def readyM (D : List (List Nat)) (n m : Nat) : List Nat := (List.range n).filter fun i => !m.testBit i && (D.getD i []).all m.testBit
/-- the orders, m: what is done, as bits -/
def ordsM (D : List (List Nat)) (n : Nat) : Nat → Nat → List (List Nat)
  | 0, _ => [[]]
  | fuel + 1, m =>
    match readyM D n m with
    | [] => [[]]
    | i :: rs => (i :: rs).flatMap fun i => (ordsM D n fuel (m ||| 2 ^ i)).map (i :: ·)
def Bits (n : Nat) (listed : Array Bool) (m : Nat) : Prop := listed.size = n ∧ (∀ j, j < n → listed.getD j true = m.testBit j) ∧ ∀ j, n ≤ j → m.testBit j = false
theorem Bits.start (n : Nat) : Bits n (Array.replicate n false) 0 := ⟨by simp, fun j hj => by simp [hj], fun j _ => by simp⟩
theorem Bits.step {n : Nat} {listed : Array Bool} {m i : Nat} (h : Bits n listed m) (hi : i < n) : Bits n (listed.setIfInBounds i true) (m ||| 2 ^ i) := by
  obtain ⟨h1, h2, h3⟩ := h
  refine ⟨by simpa using h1, fun j hj => ?_, fun j hj => ?_⟩
  · have := h2 j hj
    rw [Nat.testBit_or, Nat.testBit_two_pow]
    simp only [Array.getD_eq_getD_getElem?] at this ⊢
    rw [Array.getElem?_setIfInBounds]
    by_cases e : i = j
    · subst e; simp [h1, hi]
    · simp [e, this]
  · rw [Nat.testBit_or, Nat.testBit_two_pow, h3 j hj]; simp; omega
theorem Bits.ready {ops : Array Oper} {listed : Array Bool} {m : Nat} (h : Bits ops.size listed m) : Region.ready .any ops listed = readyM (waits ops) ops.size m := by
  obtain ⟨h1, h2, h3⟩ := h
  show (List.range ops.size).filter (fun i => !listed.getD i true && ((ops[i]?).map (·.after.all fun e => !Region.binds .any e || listed.getD e.on false)).getD false) = _
  unfold readyM
  apply List.filter_congr
  intro i hi
  have hi := List.mem_range.1 hi
  rw [h2 i hi]
  congr 1
  have hw : (waits ops).getD i [] = (ops[i].after.toList.filter fun e => Region.binds .any e).map (·.on) := by
    unfold waits
    rw [List.getD_eq_getElem?_getD, List.getElem?_map, List.getElem?_eq_getElem (by simpa using hi)]; rfl
  rw [hw, Array.getElem?_eq_getElem hi]
  simp only [Option.map_some, Option.getD_some]
  rw [← Array.all_toList, List.all_map, List.all_filter]
  apply congrArg (fun f => List.all _ f)
  funext e
  have hg : listed.getD e.on false = m.testBit e.on := by
    by_cases hj : e.on < ops.size
    · rw [← h2 _ hj]; simp only [Array.getD_eq_getD_getElem?]; rw [Array.getElem?_eq_getElem (by omega)]; rfl
    · rw [h3 _ (by omega)]; simp only [Array.getD_eq_getD_getElem?]; rw [Array.getElem?_eq_none (by omega)]; rfl
  rw [hg]; rfl
theorem go_mem (ops : Array Oper) : ∀ (fuel t : Nat) (listed : Array Bool) (m : Nat), Bits ops.size listed m → Region.linearise.go .any ops fuel t listed [] ∈ ordsM (waits ops) ops.size fuel m
  | 0, t, listed, m, _ => by simp [Region.linearise.go, ordsM]
  | fuel + 1, t, listed, m, hb => by
    have hr : Region.ready .any ops listed = (List.range ops.size).filter (fun i => !listed.getD i true && ((ops[i]?).map (·.after.all fun e => !Region.binds .any e || listed.getD e.on false)).getD false) := rfl
    simp only [Region.linearise.go, ordsM]
    rw [← hr, ← hb.ready]
    cases h : Region.ready .any ops listed with
    | nil => simp
    | cons i rs =>
      have hlt : t % (i :: rs).length < (i :: rs).length := Nat.mod_lt _ (by simp)
      rw [List.getElem?_eq_getElem hlt]
      simp only
      rw [linearise_go_acc]
      rw [List.mem_flatMap]
      refine ⟨_, List.getElem_mem hlt, ?_⟩
      rw [List.mem_map]
      have hin : (i :: rs)[t % (i :: rs).length] < ops.size := by
        have : (i :: rs)[t % (i :: rs).length] ∈ Region.ready .any ops listed := by rw [h]; exact List.getElem_mem hlt
        rw [hr] at this
        exact List.mem_range.1 (List.mem_filter.1 this).1
      exact ⟨_, go_mem ops fuel _ _ _ (hb.step hin), rfl⟩
theorem seg (ops : Array Oper) : ∀ (k i : Nat), (List.range' i k).filterMap (ops[·]?) = (ops.toList.drop i).take k
  | 0, i => by simp
  | k + 1, i => by
    rw [List.range'_succ]
    by_cases h : i < ops.size
    · rw [List.filterMap_cons_some (b := ops[i]) (by simp [h]), seg ops k (i + 1), List.drop_eq_getElem_cons (l := ops.toList) (i := i) (by simpa using h), List.take_succ_cons]; rfl
    · rw [List.filterMap_cons_none (by simp; omega), seg ops k (i + 1), List.drop_of_length_le (by simp; omega), List.drop_of_length_le (by simp; omega)]; simp
theorem seg_end (ops : Array Oper) (k i : Nat) (h : ops.size ≤ i + k) : (List.range' i k).filterMap (ops[·]?) = ops.toList.drop i := by
  rw [seg, List.take_of_length_le (by simp; omega)]
theorem seg_one (ops : Array Oper) (i : Nat) : ([i] : List Nat).filterMap (ops[·]?) = (ops.toList.drop i).take 1 := seg ops 1 i
theorem order_text (ops : Array Oper) (n : Nat) (h : ops.size = n) : (List.range' 0 n).filterMap (ops[·]?) = ops.toList := by
  rw [seg_end ops n 0 (by omega), List.drop_zero]
theorem order_swap (ops : Array Oper) (i k : Nat) (h : ops.size = i + 2 + k) : (List.range' 0 i ++ [i + 1] ++ [i] ++ List.range' (i + 2) k).filterMap (ops[·]?) = ops.toList.take i ++ ((ops.toList.drop (i + 1)).take 1 ++ ((ops.toList.drop i).take 1 ++ ops.toList.drop (i + 2))) := by
  rw [List.filterMap_append, List.filterMap_append, List.filterMap_append, seg, seg_one, seg_one, seg_end ops k (i + 2) (by omega), List.drop_zero]
  simp only [List.append_assoc]
section
variable {P : Program} {ops : Array Oper} {Q : Exit → Act → World → Prop}
theorem wpOps_list : ∀ (o : List Nat) (a : Act) (w : World), wpList P ops Q (o.filterMap (ops[·]?)) a w → wpOps P ops Q o a w
  | [], a, w, h => h
  | i :: o, a, w, h => by
    unfold wpOps
    cases hi : ops[i]? with
    | none =>
      rw [List.filterMap_cons_none hi] at h
      exact wpOps_list o a w h
    | some x =>
      rw [List.filterMap_cons_some hi] at h
      unfold wpList at h
      simp only
      split
      · rename_i hw
        rw [if_pos hw] at h
        exact h.imp (fun h => Oper.wp_mono (fun a w => wpOps_list o a w) h) id
      · rename_i hw
        rw [if_neg hw] at h
        exact wpOps_list o _ w h
theorem wp_region_ords {id : Nat} {a : Act} {w : World} (hm : P.follows .mixedOrders = true) (n : Nat) (hn : ops.size = n) (D : List (List Nat)) (hD : waits ops = D) {L : List (List Nat)} (hL : ordsM D n n 0 = L)
    (h : ∀ o ∈ L, wpList P ops Q (o.filterMap (ops[·]?)) a w.drew) : (Code.region id ops true).wp P Q a w :=
  wp_region_draw fun t => by
    subst hn hD
    simp only [Region.schedule, hm, Bool.true_or, if_true]
    exact wpOps_list _ _ _ (h _ (hL ▸ go_mem _ _ _ _ _ (Bits.start _)))
theorem wpl_text {l : List Oper} {a : Act} {w : World} (n : Nat) (h : l.length = n) (H : wpList P l.toArray Q l a w) : wpList P l.toArray Q ((List.range' 0 n).filterMap (l.toArray[·]?)) a w := by
  rw [order_text l.toArray n (by simpa using h)]; exact H
theorem wpl_swap {l : List Oper} {a : Act} {w : World} (i k : Nat) (h : l.length = i + 2 + k) (H : wpList P l.toArray Q (l.take i ++ ((l.drop (i + 1)).take 1 ++ ((l.drop i).take 1 ++ l.drop (i + 2)))) a w) :
    wpList P l.toArray Q ((List.range' 0 i ++ [i + 1] ++ [i] ++ List.range' (i + 2) k).filterMap (l.toArray[·]?)) a w := by
  rw [order_swap l.toArray i k (by simpa using h)]; exact H
end
end Go.Proofs.YtjdglpngcdcneaaGreat

/- Layer 1's reader: each call, at a reader that stands in block b. -/
namespace Go.Proofs.YtjdglpngcdcneaaGreat
open Go.RowKit
set_option linter.unusedVariables false
set_option linter.unusedSimpArgs false

/-- block b is a reader of s, and stands at 'at_' -/
def Rd (w : World) (b : Nat) (s : ByteArray) (at_ : Nat) : Prop := w.heap[b]? = some (.cells #[.string s, .int .i64 at_] 122 (0, 0))
theorem Rd.c0 {w : World} {b : Nat} {s : ByteArray} {a : Nat} (h : Rd w b s a) : w.cell? ⟨b, 0, none⟩ = some (.string s) := by rw [cell_of_heap h]; rfl
theorem Rd.c1 {w : World} {b : Nat} {s : ByteArray} {a : Nat} (h : Rd w b s a) : w.cell? ⟨b, 1, none⟩ = some (.int .i64 a) := by rw [cell_of_heap h]; rfl
theorem Rd.f1 {w : World} {b : Nat} {s : ByteArray} {a : Nat} (h : Rd w b s a) : w.frozen? ⟨b, 1, none⟩ = false := free_of_heap h 1
theorem Rd.lt {w : World} {b : Nat} {s : ByteArray} {a : Nat} (h : Rd w b s a) : b < w.heap.size := lt_of_block h
theorem Rd.ext {w w' : World} {b : Nat} {s : ByteArray} {a : Nat} (h : Rd w b s a) (x : Ext w w') : Rd w' b s a := x.heap h
theorem Rd.keep {S : Nat → Prop} {w w' : World} {b : Nat} {s : ByteArray} {a : Nat} (h : Rd w b s a) (x : Mut S w w') (hb : ¬ S b) : Rd w' b s a := x.heap hb h
theorem Rd.set {w : World} {b : Nat} {s : ByteArray} {a : Nat} (h : Rd w b s a) (n : Nat) : Rd (w.setCell ⟨b, 1, none⟩ (.int .i64 n)) b s n := heap_setCell h 1 _

theorem new_any (s : ByteArray) (w : World) :
    Calls Tryz.prog 50 #[.string s] w fun e w' => e = .returned (.pointer (some ⟨w.heap.size, 0, none⟩)) ∧ w' = w.alloc (.cells #[.string s, .int .i64 0] 122) := by
  go_enter Tryz.func50, Tryz.ntmps50
  go_wp2
  go_ret
  exact ⟨rfl, rfl⟩
theorem Rd.new (w : World) (s : ByteArray) : Rd (w.alloc (.cells #[.string s, .int .i64 0] 122)) w.heap.size s 0 := heap_alloc_self _ _

set_option maxHeartbeats 400000 in
theorem left_any {w : World} {b : Nat} {s : ByteArray} {a : Nat} (h : Rd w b s a) (ha : a ≤ s.size) (hs : s.size ≤ maxLen) :
    Calls Tryz.prog 82 #[.pointer (some ⟨b, 0, none⟩)] w fun e w' => e = .returned (.int .i64 ((s.size - a : Nat) : Int)) ∧ Ext w w' := by
  have h0 := h.c0
  have h1 := h.c1
  have hl := h.lt
  clear h
  unfold maxLen at hs
  have e1 : (s.size : Int) - (a : Int) = ((s.size - a : Nat) : Int) := by omega
  go_enter Tryz.func82, Tryz.ntmps82
  go_wp2
  (refine wp_region_after (by kernel_rfl) (by kernel_rfl) ?_; (repeat (first | go_big_quiet_skip | (go_big_quiet_want; first | (fail; simp only [Act.put, List.setIfInBounds_toArray, List.set_cons_succ, List.set_cons_zero]; go_big_quiet_on) | (go_big_quiet_op; first | go_big_quiet_on | (apply Exists.intro; refine ⟨fun _ => ?_, ?_⟩; (· (fail)); go_big_quiet_on))))); refine wpQuiet_nil ?_; rintro _ ⟨y, rfl⟩)
  go_wp2
  go_ret
  exact ⟨rfl, y.ext⟩
set_option maxHeartbeats 400000 in
theorem take_nil (n : Int) (w : World) :
    Calls Tryz.prog 81 #[.pointer none, .int .i64 n] w fun e w' => e = .returned (.tuple #[.string ⟨#[]⟩, .int .i64 15]) ∧ w = w' := by
  go_enter Tryz.func81, Tryz.ntmps81
  go_wp2
  go_ret2
  exact ⟨rfl, rfl⟩
set_option maxHeartbeats 400000 in
theorem take_neg {w : World} {b : Nat} (n : Int) (hn : n < 0) :
    Calls Tryz.prog 81 #[.pointer (some ⟨b, 0, none⟩), .int .i64 n] w fun e w' => e = .returned (.tuple #[.string ⟨#[]⟩, .int .i64 1]) ∧ w = w' := by
  go_enter Tryz.func81, Tryz.ntmps81
  go_wp2
  go_ret2
  exact ⟨rfl, rfl⟩
set_option maxHeartbeats 400000 in
theorem take_end {w : World} {b : Nat} {s : ByteArray} {a : Nat} (h : Rd w b s a) (ha : a ≤ s.size) (hs : s.size ≤ maxLen) (n : Int) (hn0 : 0 ≤ n) (hn : (s.size : Int) - a < n) :
    Calls Tryz.prog 81 #[.pointer (some ⟨b, 0, none⟩), .int .i64 n] w fun e w' => e = .returned (.tuple #[.string ⟨#[]⟩, .int .i64 2]) ∧ Ext w w' := by
  have hl := left_any h ha hs
  have hn1 : ((s.size - a : Nat) : Int) < n := by omega
  have HL := Lib.hid hl
  clear hl h
  go_enter Tryz.func81, Tryz.ntmps81
  go_wp2_with (go_at_call 82; refine HL.out.mono ?_; rintro e w1 ⟨rfl, hx⟩)
  go_ret2
  exact ⟨rfl, hx⟩
set_option maxHeartbeats 400000 in
theorem take_ok {w : World} {b : Nat} {s : ByteArray} {a : Nat} (h : Rd w b s a) (hs : s.size ≤ maxLen) (n : Nat) (hn : a + n ≤ s.size) :
    Calls Tryz.prog 81 #[.pointer (some ⟨b, 0, none⟩), .int .i64 n] w fun e w' => e = .returned (.tuple #[.string (s.extract a (a + n)), .int .i64 0]) ∧ Rd w' b s (a + n) ∧ Mut (oneB b) w w' := by
  have HL := Lib.hid (left_any h (by omega) hs)
  have HR := Lib.hid h
  have hn1 : ¬ ((s.size - a : Nat) : Int) < n := by omega
  have hn2 : a + n ≤ s.size := hn
  have hs2 := hs
  unfold maxLen at hs2
  clear h
  go_enter Tryz.func81, Tryz.ntmps81
  go_wp2_with (go_at_call 82; refine HL.out.mono ?_; rintro e w1 ⟨rfl, hx⟩)
  have HR1 := Lib.hid (HR.out.ext hx)
  have h0 := HR1.out.c0
  have h1 := HR1.out.c1
  have hl := HR1.out.lt
  (refine wp_region_after (by kernel_rfl) (by kernel_rfl) ?_; (repeat (first | go_big_quiet_skip | (go_big_quiet_want; first | (fail; simp only [Act.put, List.setIfInBounds_toArray, List.set_cons_succ, List.set_cons_zero]; go_big_quiet_on) | (go_big_quiet_op; first | go_big_quiet_on | (apply Exists.intro; refine ⟨fun _ => ?_, ?_⟩; (· (fail)); go_big_quiet_on))))); refine wpQuiet_nil ?_; rintro _ ⟨y, rfl⟩)
  have HR2 := Lib.hid (HR1.out.ext y.ext)
  have g1 := HR2.out.c1
  have gf := HR2.out.f1
  go_wp2
  go_ret2
  have ha := HR2.out.set (a + n)
  refine ⟨rfl, ha, ?_⟩
  exact ((hx.trans y.ext).any).trans (Mut.one_set b 1 _)
theorem extract_get (s : ByteArray) (a n i : Nat) (h : a + n ≤ s.size) (hi : i < n) : (s.extract a (a + n))[i]'(by rw [ByteArray.size_extract]; omega) = s[a + i] := by
  show (s.extract a (a + n)).data[i]'_ = s.data[a + i]'(by have : s.data.size = s.size := rfl; omega)
  simp only [ByteArray.data_extract, Array.getElem_extract]

set_option maxHeartbeats 400000 in
theorem byte_nil (w : World) :
    Calls Tryz.prog 79 #[.pointer none] w fun e w' => e = .returned (.tuple #[.int .u8 0, .int .i64 15]) ∧ w = w' := by
  go_enter Tryz.func79, Tryz.ntmps79
  go_wp2_with (go_at_call 81; refine (take_nil _ _).mono ?_; rintro e w1 ⟨rfl, rfl⟩)
  go_ret2
  exact ⟨rfl, rfl⟩
set_option maxHeartbeats 400000 in
theorem byte_end {w : World} {b : Nat} {s : ByteArray} (h : Rd w b s s.size) (hs : s.size ≤ maxLen) :
    Calls Tryz.prog 79 #[.pointer (some ⟨b, 0, none⟩)] w fun e w' => e = .returned (.tuple #[.int .u8 0, .int .i64 2]) ∧ Ext w w' := by
  have HL := Lib.hid (take_end h (Nat.le_refl _) hs 1 (by omega) (by omega))
  clear h
  go_enter Tryz.func79, Tryz.ntmps79
  go_wp2_with (go_at_call 81; refine HL.out.mono ?_; rintro e w1 ⟨rfl, hx⟩)
  go_ret2
  exact ⟨rfl, hx⟩
set_option maxHeartbeats 400000 in
theorem byte_ok {w : World} {b : Nat} {s : ByteArray} {a : Nat} (h : Rd w b s a) (hs : s.size ≤ maxLen) (ha : a < s.size) :
    Calls Tryz.prog 79 #[.pointer (some ⟨b, 0, none⟩)] w fun e w' => e = .returned (.tuple #[.int .u8 (s[a].toNat : Nat), .int .i64 0]) ∧ Rd w' b s (a + 1) ∧ Mut (oneB b) w w' := by
  have HL := Lib.hid (take_ok h hs 1 (by omega))
  clear h
  have hz : 0 < (s.extract a (a + 1)).size := by rw [ByteArray.size_extract]; omega
  have hg := extract_get s a 1 0 (by omega) (by omega)
  simp only [Nat.add_zero] at hg
  go_enter Tryz.func79, Tryz.ntmps79
  go_wp2_with (go_at_call 81; refine HL.out.mono ?_; rintro e w1 ⟨rfl, hr, hx⟩)
  go_ret2
  exact ⟨rfl, hr, hx⟩
theorem or_nat (x y i : Nat) (hx : x < 2 ^ i) (hy : y % 2 ^ i = 0) : x ||| y = x + y := by rw [Nat.or_comm, nat_join i y x hy hx, Nat.add_comm]
theorem four_bits (a b c d : Nat) (ha : a < 2 ^ 8) (hb : b < 2 ^ 8) (hc : c < 2 ^ 8) (hd : d < 2 ^ 8) :
    bits .or .u32 (bits .or .u32 (bits .or .u32 (a : Int) ((b : Int) * 256)) ((c : Int) * 65536)) ((d : Int) * 16777216) = ((a + 256 * b + 65536 * c + 16777216 * d : Nat) : Int) := by
  rw [show (b : Int) * 256 = ((b * 256 : Nat) : Int) by omega, u32_or_nat _ _ (by omega) (by omega), or_nat a (b * 256) 8 ha (by omega)]
  rw [show (c : Int) * 65536 = ((c * 65536 : Nat) : Int) by omega, u32_or_nat _ _ (by omega) (by omega), or_nat _ (c * 65536) 16 (by omega) (by omega)]
  rw [show (d : Int) * 16777216 = ((d * 16777216 : Nat) : Int) by omega, u32_or_nat _ _ (by omega) (by omega), or_nat _ (d * 16777216) 24 (by omega) (by omega)]
  congr 1; omega
/-- four bytes' number -/
def four (a b c d : UInt8) : Nat := a.toNat + 256 * b.toNat + 65536 * c.toNat + 16777216 * d.toNat

end Go.Proofs.YtjdglpngcdcneaaGreat

/- Layer 1 among other things that a call holds. -/
namespace Go.Proofs.YtjdglpngcdcneaaGreat
open Go.RowKit
set_option linter.unusedVariables false

def rdT (b : Nat) (s : ByteArray) (a : Nat) : Thing where
  holds w fp := Rd w b s a ∧ fp = oneB b
  keep h m hd := ⟨h.1.keep m (hd _ (by rw [h.2])), h.2⟩
  lt h hk := by rw [h.2] at hk; cases hk; exact h.1.lt
section
variable {S : Nat → Prop} {W w : World} {L : List Thing} {b : Nat} {s : ByteArray} {a : Nat} {l : List UInt8}
theorem St.rd (h : St S W w (rdT b s a :: L)) : Rd w b s a := by obtain ⟨fp, h1, _⟩ := h.head; exact h1
theorem St.rdTo (h : St S W w (rdT b s a :: L)) {w' : World} {a' : Nat} (hr : Rd w' b s a') (hm : Mut (oneB b) w w') : St S W w' (rdT b s a' :: L) :=
  h.upd (fun fp h1 => ⟨fp, ⟨hr, h1.2⟩, by rw [h1.2]; exact hm, fun k hk => .inl hk⟩)
theorem St.newRd (h : St S W w L) (s : ByteArray) : St S W (w.alloc (.cells #[.string s, .int .i64 0] 122)) (rdT w.heap.size s 0 :: L) :=
  h.add ((Mut.refl _ _).alloc _) ⟨_, ⟨Rd.new w s, rfl⟩, fun k hk => by cases hk; exact Nat.le_refl _⟩
theorem new_st (h : St S W w L) (s : ByteArray) :
    Calls Tryz.prog 50 #[.string s] w fun e w' => e = .returned (.pointer (some ⟨w.heap.size, 0, none⟩)) ∧ St S W w' (rdT w.heap.size s 0 :: L) :=
  (new_any s w).mono fun e w' ⟨he, hw⟩ => ⟨he, hw ▸ h.newRd s⟩
theorem take_st (h : St S W w (rdT b s a :: L)) (hs : s.size ≤ maxLen) (n : Nat) (hn : a + n ≤ s.size) :
    Calls Tryz.prog 81 #[.pointer (some ⟨b, 0, none⟩), .int .i64 n] w fun e w' => e = .returned (.tuple #[.string (s.extract a (a + n)), .int .i64 0]) ∧ St S W w' (rdT b s (a + n) :: L) :=
  (take_ok h.rd hs n hn).mono fun e w' ⟨he, hr, hm⟩ => ⟨he, h.rdTo hr hm⟩
theorem take_end_st (h : St S W w (rdT b s a :: L)) (ha : a ≤ s.size) (hs : s.size ≤ maxLen) (n : Int) (hn0 : 0 ≤ n) (hn : (s.size : Int) - a < n) :
    Calls Tryz.prog 81 #[.pointer (some ⟨b, 0, none⟩), .int .i64 n] w fun e w' => e = .returned (.tuple #[.string ⟨#[]⟩, .int .i64 2]) ∧ St S W w' (rdT b s a :: L) :=
  (take_end h.rd ha hs n hn0 hn).mono fun e w' ⟨he, x⟩ => ⟨he, h.ext x⟩
theorem take_neg_st (h : St S W w (rdT b s a :: L)) (n : Int) (hn : n < 0) :
    Calls Tryz.prog 81 #[.pointer (some ⟨b, 0, none⟩), .int .i64 n] w fun e w' => e = .returned (.tuple #[.string ⟨#[]⟩, .int .i64 1]) ∧ St S W w' (rdT b s a :: L) :=
  (take_neg n hn).mono fun e w' ⟨he, x⟩ => ⟨he, x ▸ h⟩
theorem byte_st (h : St S W w (rdT b s a :: L)) (hs : s.size ≤ maxLen) (ha : a < s.size) :
    Calls Tryz.prog 79 #[.pointer (some ⟨b, 0, none⟩)] w fun e w' => e = .returned (.tuple #[.int .u8 (s[a].toNat : Nat), .int .i64 0]) ∧ St S W w' (rdT b s (a + 1) :: L) :=
  (byte_ok h.rd hs ha).mono fun e w' ⟨he, hr, hm⟩ => ⟨he, h.rdTo hr hm⟩
theorem byte_end_st (h : St S W w (rdT b s a :: L)) (hs : s.size ≤ maxLen) (ha : a = s.size) :
    Calls Tryz.prog 79 #[.pointer (some ⟨b, 0, none⟩)] w fun e w' => e = .returned (.tuple #[.int .u8 0, .int .i64 2]) ∧ St S W w' (rdT b s a :: L) := by
  subst ha
  exact (byte_end h.rd hs).mono fun e w' ⟨he, x⟩ => ⟨he, h.ext x⟩
end
end Go.Proofs.YtjdglpngcdcneaaGreat

/- Layer 1's writer: each call, at a writer that stands in block b and holds the slice v of the bytes l. -/
namespace Go.Proofs.YtjdglpngcdcneaaGreat
open Go.RowKit
set_option linter.unusedVariables false
set_option linter.unusedSimpArgs false

structure Wr (w : World) (b : Nat) (v : Value) (l : List UInt8) : Prop where
  heap : w.heap[b]? = some (.cells #[v] 45 (0, 0))
  own : Own w 5 1 v l.length (bytesV l)
  ne : v.ownBlock ≠ some b
/-- what a call on it may turn -/
def wrS (b : Nat) (v : Value) : Nat → Prop := fun k => k = b ∨ v.ownBlock = some k
theorem Wr.lt {w : World} {b : Nat} {v : Value} {l : List UInt8} (h : Wr w b v l) : b < w.heap.size := lt_of_block h.heap
theorem Wr.keep {S : Nat → Prop} {w w' : World} {b : Nat} {v : Value} {l : List UInt8} (h : Wr w b v l) (x : Mut S w w') (hb : ¬ S b) (hv : ∀ k, v.ownBlock = some k → ¬ S k) : Wr w' b v l :=
  ⟨x.heap hb h.heap, h.own.keep x hv, h.ne⟩
theorem Wr.ext {w w' : World} {b : Nat} {v : Value} {l : List UInt8} (h : Wr w b v l) (x : Ext w w') : Wr w' b v l := h.keep x (fun f => f) (fun _ _ f => f)
theorem Wr.new (w : World) : Wr (w.alloc (.cells #[.slice none 0 0] 45)) w.heap.size (.slice none 0 0) [] := ⟨heap_alloc_self _ _, Own.nil _ _ _, fun h => by cases h⟩
/-- a call on a writer that was made since W -/
theorem Wr.step {W w w' : World} {b : Nat} {v : Value} (hE : Ext W w) (hM : Mut (wrS b v) w w') (hb : W.heap.size ≤ b) (hv : OwnGe W.heap.size v) : Ext W w' :=
  hE.trans' hM (fun i hi h => by rcases h with h | h; omega; have := hv i h; omega)

theorem Wr.next {W w w' : World} {b : Nat} {v v' : Value} (hE : Ext W w) (hb : W.heap.size ≤ b) {B : Nat} (hB : W.heap.size ≤ B) (hBw : B ≤ w.heap.size) (hv : OwnGe B v) (hm : Moved w v v') (hM : Mut (wrS b v) w w') : Ext W w' ∧ OwnGe B v' ∧ B ≤ w'.heap.size :=
  ⟨Wr.step hE hM hb (hv.mono hB), hm.ge hv hBw, Nat.le_trans hBw hM.size⟩
theorem wrS_not {b k B : Nat} {v : Value} (hb : k ≠ b) (hv : OwnGe B v) (hk : k < B) : ¬ wrS b v k := by
  rintro (h | h)
  · exact hb h
  · have := hv k h; omega
/-- behind an append whose slice is stored back -/
theorem Wr.back {w w1 : World} {b : Nat} {v v' : Value} {l m : List UInt8} (h : Wr w b v l) (ho : Own w1 5 1 v' (l.length + m.length) (bytesV l ++ bytesV m)) (hm : Mut (ownS v) w w1) (hv : Moved w v v') :
    Wr (w1.setCell ⟨b, 0, none⟩ v') b v' (l ++ m) ∧ Mut (wrS b v) w (w1.setCell ⟨b, 0, none⟩ v') := by
  have hh : w1.heap[b]? = some (.cells #[v] 45 (0, 0)) := hm.heap (fun x => h.ne x) h.heap
  have hne : v'.ownBlock ≠ some b := hv.ne h.ne h.lt
  refine ⟨⟨heap_setCell hh 0 v', ?_, hne⟩, ?_⟩
  · rw [List.length_append, bytesV_append]
    exact Own.keep ho (Mut.one_set1 b v') (fun k hk e => hne (by rw [hk, e]))
  · exact (hm.mono (fun i _ x => .inr x)).setCell (.inr (.inl rfl)) v'

theorem uint8_info : (Tryz.prog.info? 5).map (fun i => (i.zero, i.size, i.bytes)) = some (some (.int .u8 0), 1, 1) := by kernel_rfl

set_option maxHeartbeats 400000 in
theorem text_nil (s : ByteArray) (w : World) :
    Calls Tryz.prog 17 #[.pointer none, .string s] w fun e w' => e = .returned (.tuple #[]) ∧ w = w' := by
  go_enter Tryz.func17, Tryz.ntmps17
  go_wp2
  go_end0
  exact ⟨rfl, rfl⟩
set_option maxHeartbeats 400000 in
theorem text_any {w : World} {b : Nat} {v : Value} {l : List UInt8} (h : Wr w b v l) (s : ByteArray) (hs : l.length + s.size ≤ 140737488355328) :
    Calls Tryz.prog 17 #[.pointer (some ⟨b, 0, none⟩), .string s] w fun e w' => e = .returned (.tuple #[]) ∧ ∃ v', Wr w' b v' (l ++ s.data.toList) ∧ Moved w v v' ∧ Mut (wrS b v) w w' := by
  obtain ⟨A, c, rfl⟩ := h.own.form
  have H := Lib.hid h
  have hc := cell_of_heap h.heap 0
  have hc2 : w.cell? ⟨b, 0, none⟩ = some (.slice A l.length c) := by rw [hc]; rfl
  have hf := free_of_heap h.heap 0
  clear hc h
  go_enter Tryz.func17, Tryz.ntmps17
  go_wp2_with (at_builtin; refine wpList_append_string _ rfl _ _ _ _ rfl 5 Tryz.underlying43 Tryz.underlying9 uint8_info (.slice A l.length c) l.length (bytesV l) rfl H.out.own s rfl (by unfold maxLen; omega) hs ?_; intro v' w1 ho hm hv; obtain ⟨A', c', rfl⟩ := ho.form; have hh : w1.heap[b]? = some (.cells #[.slice A l.length c] 45 (0, 0)) := hm.heap (fun x => H.out.ne x) H.out.heap; have hc3 : w1.cell? ⟨b, 0, none⟩ = some (.slice A l.length c) := cell_of_heap hh 0; have hf3 := free_of_heap hh 0; clear hh)
  have hb := H.out.back (m := s.data.toList) (by simpa using ho) hm hv
  go_wp2
  go_end0
  exact ⟨rfl, _, hb.1, hv, hb.2⟩
set_option maxHeartbeats 400000 in
theorem put_nil (A : Option Addr) (n c : Nat) (w : World) :
    Calls Tryz.prog 86 #[.pointer none, .slice A n c] w fun e w' => e = .returned (.tuple #[]) ∧ w = w' := by
  go_enter Tryz.func86, Tryz.ntmps86
  go_wp2
  go_end0
  exact ⟨rfl, rfl⟩
set_option maxHeartbeats 400000 in
theorem put_any {w : World} {b : Nat} {v : Value} {l : List UInt8} (h : Wr w b v l) (m : List UInt8) (ad : Addr) (cp : Nat) (hm : ∀ i, i < m.length → w.cell? (ad.add i) = some (bv (m.getD i 0))) (hs : l.length + m.length ≤ 140737488355328) :
    Calls Tryz.prog 86 #[.pointer (some ⟨b, 0, none⟩), .slice (some ad) m.length cp] w fun e w' => e = .returned (.tuple #[]) ∧ ∃ v', Wr w' b v' (l ++ m) ∧ Moved w v v' ∧ Mut (wrS b v) w w' := by
  obtain ⟨A, c, rfl⟩ := h.own.form
  have H := Lib.hid h
  have HM := Lib.hid hm
  have hc := cell_of_heap h.heap 0
  have hc2 : w.cell? ⟨b, 0, none⟩ = some (.slice A l.length c) := by rw [hc]; rfl
  have hf := free_of_heap h.heap 0
  clear hc h hm
  go_enter Tryz.func86, Tryz.ntmps86
  go_wp2_with (at_builtin; refine wpList_append _ rfl _ _ _ rfl 5 (.int .u8 0) 1 1 Tryz.underlying43 uint8_info rfl (by decide) (.slice A l.length c) l.length (bytesV l) rfl H.out.own ad m.length cp (bytesV m) rfl (by rw [bytesV_len, Nat.mul_one]) (cells_news HM.out) (bytesV_one m) (by unfold maxLen; omega) (by omega) ?_; intro v' w1 ho hm hv; obtain ⟨A', c', rfl⟩ := ho.form; have hh : w1.heap[b]? = some (.cells #[.slice A l.length c] 45 (0, 0)) := hm.heap (fun x => H.out.ne x) H.out.heap; have hc3 : w1.cell? ⟨b, 0, none⟩ = some (.slice A l.length c) := cell_of_heap hh 0; have hf3 := free_of_heap hh 0; clear hh)
  have hb := H.out.back (m := m) ho hm hv
  go_wp2
  go_end0
  exact ⟨rfl, _, hb.1, hv, hb.2⟩
set_option maxHeartbeats 400000 in
theorem put_none {w : World} {b : Nat} {v : Value} {l : List UInt8} (h : Wr w b v l) (cp : Nat) :
    Calls Tryz.prog 86 #[.pointer (some ⟨b, 0, none⟩), .slice none 0 cp] w fun e w' => e = .returned (.tuple #[]) ∧ ∃ v', Wr w' b v' l ∧ Moved w v v' ∧ Mut (wrS b v) w w' := by
  obtain ⟨A, c, rfl⟩ := h.own.form
  have H := Lib.hid h
  have hc := cell_of_heap h.heap 0
  have hc2 : w.cell? ⟨b, 0, none⟩ = some (.slice A l.length c) := by rw [hc]; rfl
  have hf := free_of_heap h.heap 0
  clear hc h
  go_enter Tryz.func86, Tryz.ntmps86
  go_wp2_with (at_builtin; refine wpList_append_none _ rfl _ _ _ rfl 5 (.int .u8 0) 1 1 Tryz.underlying43 uint8_info (.slice A l.length c) l.length (bytesV l) rfl H.out.own cp rfl ?_)
  have hb := H.out.back (m := []) (by simpa [bytesV] using H.out.own) (Mut.refl _ _) (Moved.refl _ _)
  rw [List.append_nil] at hb
  go_wp2
  go_end0
  exact ⟨rfl, _, hb.1, Moved.refl _ _, hb.2⟩
set_option maxHeartbeats 400000 in
theorem str_nil (w : World) :
    Calls Tryz.prog 21 #[.pointer none] w fun e w' => e = .returned (.string ⟨#[]⟩) ∧ w = w' := by
  go_enter Tryz.func21, Tryz.ntmps21
  go_wp2
  go_ret
  exact ⟨rfl, rfl⟩
/-- the bytes of an owned slice as a string -/
theorem run_string_own {w : World} {v : Value} {l : List UInt8} (h : Own w 5 1 v l.length (bytesV l)) : (convert 43 9 v).run Tryz.prog w = .ok (.string ⟨l.toArray⟩) w := by
  rcases h.2 with ⟨rfl, hn⟩ | ⟨g, cap, cur, rfl, _, hh, hnc, hcm, hcs, htake⟩
  · obtain rfl : l = [] := List.eq_nil_of_length_eq_zero hn
    exact run_convert_bytes_nil w _ _ Tryz.underlying43 Tryz.underlying5 _ _ _ Tryz.underlying9
  · refine run_string_of_row w _ _ Tryz.underlying43 Tryz.underlying5 g l.length cap l rfl (fun i hi => ?_) _ Tryz.underlying9
    rw [cell_of_heap hh, ← bytesV_get l i hi, ← htake]
    simp [List.getElem?_take, hi]
set_option maxHeartbeats 400000 in
theorem str_any {w : World} {b : Nat} {v : Value} {l : List UInt8} (h : Wr w b v l) :
    Calls Tryz.prog 21 #[.pointer (some ⟨b, 0, none⟩)] w fun e w' => e = .returned (.string ⟨l.toArray⟩) ∧ w = w' := by
  obtain ⟨A, c, rfl⟩ := h.own.form
  have hc := cell_of_heap h.heap 0
  have hc2 : w.cell? ⟨b, 0, none⟩ = some (.slice A l.length c) := by rw [hc]; rfl
  have hcv := run_string_own h.own
  clear hc h
  go_enter Tryz.func21, Tryz.ntmps21
  go_wp2
  go_ret
  exact ⟨rfl, rfl⟩
/-- a number's four bytes, the lowest first -/
def le4 (n : Nat) : List UInt8 := [UInt8.ofNat n, UInt8.ofNat (n / 256), UInt8.ofNat (n / 65536), UInt8.ofNat (n / 16777216)]
theorem bv_ofNat (n : Nat) : bv (UInt8.ofNat n) = .int .u8 ((n % 256 : Nat) : Int) := by simp [bv]
theorem le4_cells (n : Nat) (hn : n < 4294967296) : #[Value.int .u8 ((n : Int) % 256), Value.int .u8 ((n : Int) / 256 % 256), Value.int .u8 ((n : Int) / 65536 % 256), Value.int .u8 ((n : Int) / 16777216)] = (bytesV (le4 n)).toArray := by
  have h : n / 16777216 % 256 = n / 16777216 := Nat.mod_eq_of_lt (by omega)
  simp only [bytesV, le4, List.map_cons, List.map_nil, bv_ofNat, h]
  rfl
end Go.Proofs.YtjdglpngcdcneaaGreat

/- Layer 1's writer among other things that a call holds. -/
namespace Go.Proofs.YtjdglpngcdcneaaGreat
open Go.RowKit
set_option linter.unusedVariables false

def wrT (b : Nat) (l : List UInt8) : Thing where
  holds w fp := ∃ v, Wr w b v l ∧ fp = wrS b v
  keep h m hd := by
    obtain ⟨v, h1, h2⟩ := h
    exact ⟨v, h1.keep m (hd _ (by rw [h2]; exact .inl rfl)) (fun k hk => hd k (by rw [h2]; exact .inr hk)), h2⟩
  lt h hk := by
    obtain ⟨v, h1, h2⟩ := h
    rw [h2] at hk
    rcases hk with hk | hk
    · cases hk; exact h1.lt
    · exact h1.own.lt _ hk
section
variable {S : Nat → Prop} {W w : World} {L : List Thing} {b : Nat} {s : ByteArray} {a : Nat} {l : List UInt8}
theorem St.newWr (h : St S W w L) : St S W (w.alloc (.cells #[.slice none 0 0] 45)) (wrT w.heap.size [] :: L) :=
  h.add ((Mut.refl _ _).alloc _) ⟨_, ⟨_, Wr.new w, rfl⟩, fun k hk => by rcases hk with hk | hk; cases hk; exact Nat.le_refl _; cases hk⟩
theorem St.wr (h : St S W w (wrT b l :: L)) : ∃ v, Wr w b v l := by obtain ⟨fp, v, h1, _⟩ := h.head; exact ⟨v, h1⟩
theorem St.wrTo {R : World → Prop} {P : Program} {f : FuncId} {args : Array Value} {l' : List UInt8} {v0 : Value} (h : St S W w (wrT b l :: L))
    (hc : ∀ v, Wr w b v l → Calls P f args w fun e w' => e = .returned v0 ∧ ∃ v', Wr w' b v' l' ∧ Moved w v v' ∧ Mut (wrS b v) w w') :
    Calls P f args w fun e w' => e = .returned v0 ∧ St S W w' (wrT b l' :: L) := by
  obtain ⟨hm, all, fp, rest, ⟨v, h1, h2⟩, hrest⟩ := h
  refine (hc v h1).mono ?_
  rintro e w' ⟨he, v', g1, g2, g3⟩
  refine ⟨he, ?_⟩
  have h0 : St S W w ((wrT b l) :: L) := ⟨hm, all, fp, rest, ⟨v, h1, h2⟩, hrest⟩
  -- the very footprint
  obtain ⟨k1, k2, k3, k4⟩ := hrest
  refine ⟨hm.trans' g3 (fun i hi hf => (k4 i (by rw [h2]; exact hf)).resolve_right (by omega)), fun k => wrS b v' k ∨ rest k, wrS b v', rest, ⟨v', g1, rfl⟩, k1.keep g3 (fun k hk hf => k2 k (by rw [h2]; exact hf) hk), ?_, fun k => Iff.rfl, ?_⟩
  · intro k hk hr
    rcases hk with hk | hk
    · exact k2 k (by rw [h2]; exact .inl hk) hr
    · rcases g2 with g | ⟨j, g, hj⟩
      · exact k2 k (by rw [h2]; exact .inr (by rw [← g]; exact hk)) hr
      · rw [g] at hk; cases hk; have := k1.lt k hr; omega
  · intro k hk
    rcases hk with hk | hk
    · exact k4 k (by rw [h2]; exact .inl hk)
    · rcases g2 with g | ⟨j, g, hj⟩
      · exact k4 k (by rw [h2]; exact .inr (by rw [← g]; exact hk))
      · rw [g] at hk; cases hk; have := hm.size; right; omega

theorem text_st (h : St S W w (wrT b l :: L)) (s : ByteArray) (hs : l.length + s.size ≤ 140737488355328) :
    Calls Tryz.prog 17 #[.pointer (some ⟨b, 0, none⟩), .string s] w fun e w' => e = .returned (.tuple #[]) ∧ St S W w' (wrT b (l ++ s.data.toList) :: L) :=
  h.wrTo (R := fun _ => True) (fun v hv => text_any hv s hs)
theorem put_st (h : St S W w (wrT b l :: L)) (m : List UInt8) (ad : Addr) (cp : Nat) (hm : ∀ i, i < m.length → w.cell? (ad.add i) = some (bv (m.getD i 0))) (hs : l.length + m.length ≤ 140737488355328) :
    Calls Tryz.prog 86 #[.pointer (some ⟨b, 0, none⟩), .slice (some ad) m.length cp] w fun e w' => e = .returned (.tuple #[]) ∧ St S W w' (wrT b (l ++ m) :: L) :=
  h.wrTo (R := fun _ => True) (fun v hv => put_any hv m ad cp hm hs)
theorem str_st (h : St S W w (wrT b l :: L)) :
    Calls Tryz.prog 21 #[.pointer (some ⟨b, 0, none⟩)] w fun e w' => e = .returned (.string ⟨l.toArray⟩) ∧ w = w' := by
  obtain ⟨v, hv⟩ := h.wr; exact str_any hv
end
end Go.Proofs.YtjdglpngcdcneaaGreat

/- Numbers as bytes, seven bits each: plain. -/
namespace Go.Proofs.YtjdglpngcdcneaaGreat
/-- a number's bytes -/
def vb (n : Nat) : List UInt8 := if h : n < 128 then [UInt8.ofNat n] else UInt8.ofNat (n % 128 + 128) :: vb (n / 128)
termination_by n
decreasing_by omega
theorem vb_small {n : Nat} (h : n < 128) : vb n = [UInt8.ofNat n] := by rw [vb, dif_pos h]
theorem vb_big {n : Nat} (h : ¬ n < 128) : vb n = UInt8.ofNat (n % 128 + 128) :: vb (n / 128) := by rw [vb, dif_neg h]
theorem vb_pos (n : Nat) : 1 ≤ (vb n).length := by
  by_cases h : n < 128
  · rw [vb_small h]; simp
  · rw [vb_big h]; simp
theorem vb_len_le : ∀ (k n : Nat), n < 128 ^ (k + 1) → (vb n).length ≤ k + 1
  | 0, n, h => by rw [vb_small (by simpa using h)]; simp
  | k + 1, n, h => by
    by_cases h1 : n < 128
    · rw [vb_small h1]; simp
    · rw [vb_big h1, List.length_cons]
      have := vb_len_le k (n / 128) (by rw [Nat.div_lt_iff_lt_mul (by omega), ← Nat.pow_succ]; exact h)
      omega
theorem vb_len10 (n : Nat) (h : n < 18446744073709551616) : (vb n).length ≤ 10 := vb_len_le 9 n (Nat.lt_of_lt_of_le h (by decide))
theorem vb_mono : ∀ {a b : Nat}, a ≤ b → (vb a).length ≤ (vb b).length := by
  intro a b
  induction b using Nat.strongRecOn generalizing a with
  | ind b ih =>
    intro h
    by_cases ha : a < 128
    · rw [vb_small ha]; exact vb_pos b
    · rw [vb_big ha, vb_big (show ¬ b < 128 by omega), List.length_cons, List.length_cons]
      have := ih (b / 128) (by omega) (a := a / 128) (Nat.div_le_div_right h)
      omega
/-- as many as there are groups of seven bits -/
theorem vb_log : ∀ (n : Nat), 0 < n → (vb n).length = (n.log2 + 7) / 7 := by
  intro n
  induction n using Nat.strongRecOn with
  | ind n ih =>
    intro h
    by_cases h1 : n < 128
    · have : n.log2 < 7 := (Nat.log2_lt (by omega)).2 h1
      rw [vb_small h1]; simp; omega
    · rw [vb_big h1, List.length_cons, ih (n / 128) (by omega) (by omega)]
      have e : (n / 128).log2 = n.log2 - 7 := by
        have h7 : 7 ≤ n.log2 := (Nat.le_log2 (by omega)).2 (by omega)
        have l1 := Nat.log2_self_le (n := n) (by omega)
        have l2 := Nat.lt_log2_self (n := n)
        apply (Nat.log2_eq_iff (by omega)).2
        have e1 : 2 ^ n.log2 = 2 ^ (n.log2 - 7) * 128 := by rw [show (128 : Nat) = 2 ^ 7 from rfl, ← Nat.pow_add]; congr 1; omega
        have e2 : 2 ^ (n.log2 + 1) = 2 ^ (n.log2 - 7 + 1) * 128 := by rw [show (128 : Nat) = 2 ^ 7 from rfl, ← Nat.pow_add]; congr 1; omega
        rw [e1] at l1
        rw [e2] at l2
        exact ⟨by rw [Nat.le_div_iff_mul_le (by omega)]; exact l1, by rw [Nat.div_lt_iff_lt_mul (by omega)]; exact l2⟩
      have h7 : 7 ≤ n.log2 := (Nat.le_log2 (by omega)).2 (by omega)
      rw [e]; omega

/-- the number that stands at a, an error, the place behind what was looked at -/
def vgo (l : List UInt8) (a : Nat) : Nat → Nat → Nat → Nat × Nat × Nat
  | 0, k, _ => (0, 3, a + k)
  | f + 1, k, n =>
    if l.length ≤ a + k then (0, 2, l.length)
    else if 0 < k ∧ (l.getD (a + k) 0).toNat = 0 ∨ k = 9 ∧ 1 < (l.getD (a + k) 0).toNat then (0, 3, a + k + 1)
    else if (l.getD (a + k) 0).toNat < 128 then (n + (l.getD (a + k) 0).toNat * 128 ^ k, 0, a + k + 1)
    else vgo l a f (k + 1) (n + ((l.getD (a + k) 0).toNat - 128) * 128 ^ k)
def vrd (l : List UInt8) (a : Nat) : Nat × Nat × Nat := vgo l a 10 0 0
/-- what k bytes from a on come to -/
def vsum (l : List UInt8) (a : Nat) : Nat → Nat
  | 0 => 0
  | k + 1 => vsum l a k + (l.getD (a + k) 0).toNat % 128 * 128 ^ k
theorem vsum_lt (l : List UInt8) (a : Nat) : ∀ k, vsum l a k < 128 ^ k
  | 0 => by simp [vsum]
  | k + 1 => by
    have h := vsum_lt l a k
    have : (l.getD (a + k) 0).toNat % 128 * 128 ^ k ≤ 127 * 128 ^ k := Nat.mul_le_mul_right _ (by omega)
    rw [vsum, Nat.pow_succ]; omega
theorem pow128_9 : (128 : Nat) ^ 9 = 9223372036854775808 := by decide
theorem vgo_facts (l : List UInt8) (a : Nat) (ha : a ≤ l.length) : ∀ f k n, f + k = 10 → a + k ≤ l.length → n < 128 ^ k →
    (vgo l a f k n).1 < 18446744073709551616 ∧ (vgo l a f k n).2.1 ≤ 3 ∧ a ≤ (vgo l a f k n).2.2 ∧ (vgo l a f k n).2.2 ≤ l.length
  | 0, k, n, hf, hk, hn => ⟨by simp [vgo], by simp [vgo], by simp [vgo], by simp [vgo]; omega⟩
  | f + 1, k, n, hf, hk, hn => by
    rw [vgo]
    split
    · exact ⟨by simp, by simp, ha, Nat.le_refl _⟩
    · split
      · exact ⟨by simp, by simp, by simp; omega, by simp; omega⟩
      · split
        · rename_i h1 h2 h3
          refine ⟨?_, by simp, by simp; omega, by simp; omega⟩
          show n + _ < _
          rcases Nat.lt_or_ge k 9 with h9 | h9
          · have e1 : (128 : Nat) ^ (k + 1) ≤ 128 ^ 9 := Nat.pow_le_pow_right (by omega) (by omega)
            have : (l.getD (a + k) 0).toNat * 128 ^ k ≤ 127 * 128 ^ k := Nat.mul_le_mul_right _ (by omega)
            rw [Nat.pow_succ, pow128_9] at e1
            omega
          · obtain rfl : k = 9 := by omega
            have : (l.getD (a + 9) 0).toNat * 128 ^ 9 ≤ 1 * 128 ^ 9 := Nat.mul_le_mul_right _ (by omega)
            rw [pow128_9] at this hn ⊢
            omega
        · rename_i h1 h2 h3
          refine vgo_facts l a ha f (k + 1) _ (by omega) (by omega) ?_
          have h := UInt8.toNat_lt (l.getD (a + k) 0)
          have : ((l.getD (a + k) 0).toNat - 128) * 128 ^ k ≤ 127 * 128 ^ k := Nat.mul_le_mul_right _ (by omega)
          rw [Nat.pow_succ]; omega
theorem vrd_facts (l : List UInt8) (a : Nat) (ha : a ≤ l.length) : (vrd l a).1 < 18446744073709551616 ∧ (vrd l a).2.1 ≤ 3 ∧ a ≤ (vrd l a).2.2 ∧ (vrd l a).2.2 ≤ l.length :=
  vgo_facts l a ha 10 0 0 (by omega) (by omega) (by simp)
/-- a number's bytes, read -/
theorem vgo_vb {a : Nat} (p q : List UInt8) : ∀ (n f k m : Nat), f + k = 10 → n * 128 ^ k < 18446744073709551616 → (0 < k → 0 < n) →
    ∀ (l : List UInt8), l = p ++ (vb n) ++ q → p.length = k + a → vgo l a f k m = (m + n * 128 ^ k, 0, a + k + (vb n).length) := by
  intro n
  induction n using Nat.strongRecOn generalizing p with
  | ind n ih =>
    intro f k m hf hn h0 l hl hp
    have hk : k ≤ 9 := by
      rcases Nat.eq_zero_or_pos k with h | h
      · omega
      · rcases Nat.lt_or_ge 9 k with h9 | h9
        · have : (128 : Nat) ^ 10 ≤ 128 ^ k := Nat.pow_le_pow_right (by omega) h9
          have h2 : 1 * 128 ^ k ≤ n * 128 ^ k := Nat.mul_le_mul_right _ (h0 h)
          have h3 : (128 : Nat) ^ 10 = 1180591620717411303424 := by decide
          omega
        · exact h9
    have h9 : k = 9 → n ≤ 1 := by
      rintro rfl
      rw [pow128_9] at hn; omega
    obtain ⟨f, rfl⟩ : ∃ g, f = g + 1 := ⟨f - 1, by omega⟩
    have hlen : l.length = a + k + (vb n).length + q.length := by rw [hl]; simp; omega
    have hvp := vb_pos n
    rw [vgo, if_neg (by omega)]
    by_cases h1 : n < 128
    · have hg : (l.getD (a + k) 0).toNat = n := by
        rw [hl, vb_small h1, List.getD_eq_getElem?_getD, List.append_assoc, List.getElem?_append_right (by omega), show a + k - p.length = 0 by omega]
        simp; omega
      rw [hg, if_neg (by intro h; rcases h with ⟨h, h'⟩ | ⟨h, h'⟩; have := h0 h; omega; have := h9 h; omega), if_pos h1, vb_small h1]
      simp
    · have hg : (l.getD (a + k) 0).toNat = n % 128 + 128 := by
        rw [hl, vb_big h1, List.getD_eq_getElem?_getD, List.append_assoc, List.getElem?_append_right (by omega), show a + k - p.length = 0 by omega]
        simp; omega
      rw [hg, if_neg (by intro h; rcases h with ⟨h, h'⟩ | ⟨h, h'⟩; omega; have := h9 h; omega), if_neg (by omega)]
      have e := ih (n / 128) (by omega) (p ++ [UInt8.ofNat (n % 128 + 128)]) f (k + 1) (m + (n % 128 + 128 - 128) * 128 ^ k) (by omega)
        (Nat.lt_of_le_of_lt (by rw [Nat.pow_succ, show n / 128 * (128 ^ k * 128) = (n / 128 * 128) * 128 ^ k by rw [Nat.mul_comm (128 ^ k), Nat.mul_assoc]]; exact Nat.mul_le_mul_right _ (by omega)) hn)
        (fun _ => by omega) l (by rw [hl, vb_big h1]; simp) (by simp; omega)
      rw [e, vb_big h1, List.length_cons]
      refine Prod.ext ?_ (Prod.ext rfl ?_)
      · show m + (n % 128 + 128 - 128) * 128 ^ k + n / 128 * 128 ^ (k + 1) = m + n * 128 ^ k
        rw [Nat.add_sub_cancel, Nat.pow_succ, Nat.add_assoc, show n / 128 * (128 ^ k * 128) = (n / 128 * 128) * 128 ^ k by rw [Nat.mul_comm (128 ^ k), Nat.mul_assoc], ← Nat.add_mul]
        congr 2; omega
      · show a + (k + 1) + (vb (n / 128)).length = a + k + ((vb (n / 128)).length + 1)
        omega
theorem vrd_vb (p q : List UInt8) (n : Nat) (hn : n < 18446744073709551616) : vrd (p ++ vb n ++ q) p.length = (n, 0, p.length + (vb n).length) := by
  have := vgo_vb (a := p.length) p q n 10 0 0 (by omega) (by simpa using hn) (by omega) _ rfl (by omega)
  unfold vrd
  rw [this]; simp
theorem vb_inj (a b : Nat) (ha : a < 18446744073709551616) (hb : b < 18446744073709551616) (q : List UInt8) (h : vb a ++ q = vb b) : a = b := by
  have h1 := vrd_vb [] q a ha
  have h2 := vrd_vb [] [] b hb
  simp only [List.nil_append, List.append_nil] at h1 h2
  rw [h, h2] at h1
  exact (congrArg Prod.fst h1).symm
end Go.Proofs.YtjdglpngcdcneaaGreat

/- Layer 2: a number's bytes. -/
namespace Go.Proofs.YtjdglpngcdcneaaGreat
open Go.RowKit
set_option linter.unusedVariables false
set_option linter.unusedSimpArgs false
theorem v_u8_info : (Tryz.prog.info? 5).map (fun i => (i.zero, i.size, i.bytes)) = some (some (.int .u8 0), 1, 1) := by kernel_rfl
theorem v_run_string {w : World} {v : Value} {n : Nat} {l : List UInt8} (hl : l.length = n) (h : Own w 5 1 v n (bytesV l)) : (convert 43 9 v).run Tryz.prog w = .ok (.string ⟨l.toArray⟩) w := by
  subst hl
  rcases h.2 with ⟨rfl, hn⟩ | ⟨g, cap, cur, rfl, _, hh, hnc, hcm, hcs, htake⟩
  · obtain rfl : l = [] := List.eq_nil_of_length_eq_zero hn
    exact run_convert_bytes_nil w _ _ Tryz.underlying43 Tryz.underlying5 _ _ _ Tryz.underlying9
  · refine run_string_of_row w _ _ Tryz.underlying43 Tryz.underlying5 g l.length cap l rfl (fun i hi => ?_) _ Tryz.underlying9
    rw [Own.cell h i (by omega), bytesV_get _ _ hi]
theorem small_byte (m : Nat) (h : m < 128) : Value.int .u8 (m : Int) = bv (UInt8.ofNat m) := by
  have : m % 256 = m := by omega
  simp [bv, this]
theorem low_byte (m : Nat) : Value.int .u8 ((m % 128 + 128 : Nat) : Int) = bv (UInt8.ofNat (m % 128 + 128)) := by
  have : (m % 128 + 128) % 256 = m % 128 + 128 := by omega
  simp [bv, this]
theorem or_high (m : Nat) (hm : m < 256) : bits .or .u8 (m : Int) 128 = ((m % 128 + 128 : Nat) : Int) := by
  obtain ⟨m, rfl⟩ : ∃ k : Fin 256, m = k.val := ⟨⟨m, hm⟩, rfl⟩
  revert m; decide +kernel
theorem bytesV_snoc (l : List UInt8) (b : UInt8) : bytesV l ++ [bv b] = bytesV (l ++ [b]) := by simp [bytesV]
theorem bv_one (b : UInt8) : ∀ u ∈ [bv b], u.oneCell' = true := by intro u hu; simp at hu; subst hu; rfl
set_option maxRecDepth 20000 in
set_option maxHeartbeats 2000000 in
theorem vprint_any (n : Nat) (hn : n < 18446744073709551616) (w : World) :
    Calls Tryz.prog 34 #[.int .u64 n] w fun e w' => e = .returned (.string ⟨(vb n).toArray⟩) ∧ Ext w w' := by
  obtain ⟨i0, hi, hz0, hz1, hz2⟩ := info_parts v_u8_info
  have hmk : ∀ w : World, (Instr.makeSlice 43 (.int .i64 0) (.int .i64 10)).run Tryz.prog w = .ok (.slice (some ⟨w.heap.size, 0, none⟩) 0 10) (w.alloc (.cells (madeCells #[Value.int .u8 0] 10) 5)) := by
    intro w
    rw [run_make w 43 5 i0 _ Tryz.underlying43 hi hz0 .i64 .i64 0 10 (by omega) (by omega) (by rw [hz2]; omega) (by omega), hz1]
    simp [Value.cells]
  have h := (St.start noB w).made 5 1 0 10 (madeCells #[Value.int .u8 0] 10) (by omega) (by unfold maxLen; omega) (by rw [← Array.length_toList, toList_madeCells_one]; rfl)
  have h10 := vb_len10 n hn
  go_enter Tryz.func34, Tryz.ntmps34
  go_wp2_with fail
  clear hmk hi hz0 hz1 hz2
  go_loopw [0, 3] (fun vn vb' wr => ∃ (m k : Nat) (v : Value) (l : List UInt8), vn = .int .u64 m ∧ vb' = v ∧ m < 18446744073709551616 ∧ l.length = k ∧ k + (vb m).length ≤ 10 ∧ Hid (l ++ vb m = vb n) ∧ St noB w wr [ownT 5 1 v k (bytesV l)]) (fun vn _ _ => (intOf vn).toNat)
  case atStart => exact ⟨n, 0, _, [], rfl, rfl, hn, rfl, by omega, Lib.hid rfl, by simpa [bytesV] using h⟩
  case round =>
    clear h
    obtain ⟨m, k, v, l, rfl, rfl, hm, hlk, hk, HE, h⟩ := hrel
    obtain ⟨A, c, rfl⟩ := h.own.form
    have hp := vb_pos m
    have hkb : k ≤ 9 := by omega
    have HK := Lib.hid hk
    clear hk hp
    by_cases hlt : m < 128
    · have HV := Lib.hid (vb_small hlt)
      have HB := Lib.hid (small_byte m hlt)
      go_wp2_with (at_builtin; refine wpList_push rfl _ _ _ rfl 5 (.int .u8 0) 1 1 Tryz.underlying43 v_u8_info rfl (by decide) h rfl rfl rfl (by rw [HB.out]; exact bv_one _) (by unfold maxLen; omega) (by omega) ?_; intro A' c' w3 h3; have hcv := v_run_string (w := w3) (v := .slice A' (k + 1) c') (n := k + 1) (l := l ++ [UInt8.ofNat m]) (by simp [hlk]) (by rw [← bytesV_snoc, ← HB.out]; exact h3.own))
      go_ret
      refine ⟨?_, h3.ends⟩
      rw [← HE.out, HV.out]; rfl
    · have HV := Lib.hid (vb_big hlt)
      have HB := Lib.hid (low_byte m)
      have HO := Lib.hid (or_high (m % 256) (by omega))
      have HD : (m : Int) / 128 = ((m / 128 : Nat) : Int) := by omega
      have hm8 : ((m % 256 : Nat) : Int) = (m : Int) % 256 := by omega
      rw [hm8] at HO
      have hmm : m % 256 % 128 = m % 128 := by omega
      rw [hmm] at HO
      have HDD := Lib.hid HD
      clear HD hm8 hmm
      go_wp2_with (at_builtin; refine wpList_push rfl _ _ _ rfl 5 (.int .u8 0) 1 1 Tryz.underlying43 v_u8_info rfl (by decide) h rfl rfl rfl (by rw [HO.out, HB.out]; exact bv_one _) (by unfold maxLen; omega) (by omega) ?_; intro A' c' w3 h3)
      have h4 : St noB w w3 [ownT 5 1 (.slice A' (k + 1) c') (k + 1) (bytesV (l ++ [UInt8.ofNat (m % 128 + 128)]))] := by rw [← bytesV_snoc, ← HB.out, ← HO.out]; exact h3
      have HE2 : Hid ((l ++ [UInt8.ofNat (m % 128 + 128)]) ++ vb (m / 128) = vb n) := Lib.hid (by rw [← HE.out, HV.out]; simp)
      have hk2 : k + 1 + (vb (m / 128)).length ≤ 10 := by have := HK.out; rw [HV.out, List.length_cons] at this; omega
      go_roundw
      case rel => first | exact ⟨m / 128, k + 1, _, _, by rw [← HDD.out], rfl, by omega, by simp [hlk], hk2, HE2, h4⟩ | ((repeat apply Exists.intro); exact ⟨⟨m / 128, k + 1, _, _, by rw [← HDD.out], rfl, by omega, by simp [hlk], hk2, HE2, h4⟩, rfl⟩)
      case measure => simp [intOf]; omega
theorem plus_high (m : Nat) : (m : Int) % 128 + 128 = ((m % 128 + 128 : Nat) : Int) := by omega
set_option maxRecDepth 20000 in
set_option maxHeartbeats 2000000 in
theorem rprint_any (n : Nat) (hn : n < 18446744073709551616) (w : World) :
    Calls Tryz.prog 42 #[.int .u64 n] w fun e w' => e = .returned (.string ⟨(vb n).toArray⟩) ∧ Ext w w' := by
  have h := (St.start noB w).made 5 1 0 0 #[] (by omega) (by unfold maxLen; omega) rfl
  have h10 := vb_len10 n hn
  go_enter Tryz.func42, Tryz.ntmps42
  go_wp2_with fail
  go_loopw [0, 3] (fun vn vb' wr => ∃ (m k : Nat) (v : Value) (l : List UInt8), vn = .int .u64 m ∧ vb' = v ∧ m < 18446744073709551616 ∧ l.length = k ∧ k + (vb m).length ≤ 10 ∧ Hid (l ++ vb m = vb n) ∧ St noB w wr [ownT 5 1 v k (bytesV l)]) (fun vn _ _ => (intOf vn).toNat)
  case atStart => exact ⟨n, 0, _, [], rfl, rfl, hn, rfl, by omega, Lib.hid rfl, by simpa [bytesV] using h⟩
  case round =>
    clear h
    obtain ⟨m, k, v, l, rfl, rfl, hm, hlk, hk, HE, h⟩ := hrel
    obtain ⟨A, c, rfl⟩ := h.own.form
    have hp := vb_pos m
    have hkb : k ≤ 9 := by omega
    have HK := Lib.hid hk
    clear hk hp
    by_cases hlt : m < 128
    · have HV := Lib.hid (vb_small hlt)
      have HB := Lib.hid (small_byte m hlt)
      go_wp2_with (at_builtin; refine wpList_push rfl _ _ _ rfl 5 (.int .u8 0) 1 1 Tryz.underlying43 v_u8_info rfl (by decide) h rfl rfl rfl (by rw [HB.out]; exact bv_one _) (by unfold maxLen; omega) (by omega) ?_; intro A' c' w3 h3; have hcv := v_run_string (w := w3) (v := .slice A' (k + 1) c') (n := k + 1) (l := l ++ [UInt8.ofNat m]) (by simp [hlk]) (by rw [← bytesV_snoc, ← HB.out]; exact h3.own))
      go_ret
      refine ⟨?_, h3.ends⟩
      rw [← HE.out, HV.out]; rfl
    · have HV := Lib.hid (vb_big hlt)
      have HB := Lib.hid (low_byte m)
      have HO := Lib.hid (plus_high m)
      have HD : (m : Int) / 128 = ((m / 128 : Nat) : Int) := by omega
      have HDD := Lib.hid HD
      clear HD
      go_wp2_with (at_builtin; refine wpList_push rfl _ _ _ rfl 5 (.int .u8 0) 1 1 Tryz.underlying43 v_u8_info rfl (by decide) h rfl rfl rfl (by rw [HO.out, HB.out]; exact bv_one _) (by unfold maxLen; omega) (by omega) ?_; intro A' c' w3 h3)
      have h4 : St noB w w3 [ownT 5 1 (.slice A' (k + 1) c') (k + 1) (bytesV (l ++ [UInt8.ofNat (m % 128 + 128)]))] := by rw [← bytesV_snoc, ← HB.out, ← HO.out]; exact h3
      have HE2 : Hid ((l ++ [UInt8.ofNat (m % 128 + 128)]) ++ vb (m / 128) = vb n) := Lib.hid (by rw [← HE.out, HV.out]; simp)
      have hk2 : k + 1 + (vb (m / 128)).length ≤ 10 := by have := HK.out; rw [HV.out, List.length_cons] at this; omega
      go_roundw
      case rel => first | exact ⟨m / 128, k + 1, _, _, by rw [← HDD.out], rfl, by omega, by simp [hlk], hk2, HE2, h4⟩ | ((repeat apply Exists.intro); exact ⟨⟨m / 128, k + 1, _, _, by rw [← HDD.out], rfl, by omega, by simp [hlk], hk2, HE2, h4⟩, rfl⟩)
      case measure => simp [intOf]; omega
end Go.Proofs.YtjdglpngcdcneaaGreat

/- Layer 2: a number, read. -/
namespace Go.Proofs.YtjdglpngcdcneaaGreat
open Go.RowKit
set_option linter.unusedVariables false
set_option linter.unusedSimpArgs false
theorem and_127 (x : Nat) (hx : x < 256) : bits .and .u8 (x : Int) 127 = ((x % 128 : Nat) : Int) := by
  obtain ⟨m, rfl⟩ : ∃ k : Fin 256, x = k.val := ⟨⟨x, hx⟩, rfl⟩
  revert m; decide +kernel
theorem or_group (k n x p : Nat) (hp : p = 128 ^ k) (hk : k ≤ 9) (hn : n < 128 ^ k) (hx : x < 256) (h9 : k = 9 → x ≤ 1) :
    bits .or .u64 (n : Int) (IntKind.u64.wrap (IntKind.u64.wrap (bits .and .u8 (x : Int) 127) * (p : Int))) = ((n + x % 128 * 128 ^ k : Nat) : Int) := by
  subst hp
  have hle : n + x % 128 * 128 ^ k < 18446744073709551616 := by
    rcases Nat.lt_or_ge k 9 with h | h
    · have e1 : (128 : Nat) ^ (k + 1) ≤ 128 ^ 9 := Nat.pow_le_pow_right (by omega) (by omega)
      have : x % 128 * 128 ^ k ≤ 127 * 128 ^ k := Nat.mul_le_mul_right _ (by omega)
      rw [Nat.pow_succ, pow128_9] at e1
      omega
    · obtain rfl : k = 9 := by omega
      have : x % 128 * 128 ^ 9 ≤ 1 * 128 ^ 9 := Nat.mul_le_mul_right _ (by have := h9 rfl; omega)
      rw [pow128_9] at this hn ⊢
      omega
  have e1 : IntKind.u64.wrap ((x % 128 : Nat) : Int) = ((x % 128 : Nat) : Int) := by rw [IntKind.wrap_u64, Int.emod_eq_of_lt (by omega) (by omega)]
  rw [and_127 x hx, e1, ← Int.natCast_mul, IntKind.wrap_u64]
  have e : (128 : Nat) ^ k = 2 ^ (7 * k) := by rw [show (128 : Nat) = 2 ^ 7 from rfl, ← Nat.pow_mul]
  rw [e] at hn
  have hy : x % 128 * 128 ^ k % 2 ^ (7 * k) = 0 := by rw [e]; exact Nat.mul_mod_left _ _
  generalize x % 128 * 128 ^ k = y at hle hy ⊢
  rw [Int.emod_eq_of_lt (by omega) (by omega), u64_or_nat _ _ (by omega) (by omega)]
  congr 1
  exact or_nat _ _ (7 * k) hn hy
theorem vgo_step (l : List UInt8) (a k n x : Nat) (hk : k ≤ 9) (hlt : a + k < l.length) (hx : (l.getD (a + k) 0).toNat = x) (hbad : ¬ (0 < k ∧ x = 0 ∨ k = 9 ∧ 1 < x)) :
    vgo l a (10 - k) k n = if x < 128 then (n + x % 128 * 128 ^ k, 0, a + k + 1) else vgo l a (10 - (k + 1)) (k + 1) (n + x % 128 * 128 ^ k) := by
  have h8 := UInt8.toNat_lt (l.getD (a + k) 0)
  obtain ⟨f, hf⟩ : ∃ f, 10 - k = f + 1 := ⟨9 - k, by omega⟩
  rw [hf, vgo, if_neg (by omega), hx, if_neg hbad, show 10 - (k + 1) = f by omega]
  split
  · rw [Nat.mod_eq_of_lt (by assumption)]
  · rw [show x % 128 = x - 128 by omega]
theorem vgo_bad (l : List UInt8) (a k n x : Nat) (hk : k ≤ 9) (hlt : a + k < l.length) (hx : (l.getD (a + k) 0).toNat = x) (hbad : 0 < k ∧ x = 0 ∨ k = 9 ∧ 1 < x) :
    vgo l a (10 - k) k n = (0, 3, a + k + 1) := by
  obtain ⟨f, hf⟩ : ∃ f, 10 - k = f + 1 := ⟨9 - k, by omega⟩
  rw [hf, vgo, if_neg (by omega), hx, if_pos hbad]
theorem vgo_end (l : List UInt8) (a k n : Nat) (hk : k ≤ 9) (hlt : a + k = l.length) : vgo l a (10 - k) k n = (0, 2, l.length) := by
  obtain ⟨f, hf⟩ : ∃ f, 10 - k = f + 1 := ⟨9 - k, by omega⟩
  rw [hf, vgo, if_pos (by omega)]
set_option maxRecDepth 20000 in
set_option maxHeartbeats 2000000 in
theorem vread_st {S : Nat → Prop} {W w : World} {M : List Thing} {b : Nat} {s : ByteArray} {a : Nat} (h : St S W w (rdT b s a :: M)) (hs : s.size ≤ 140737488351232) (ha : a ≤ s.size) :
    Calls Tryz.prog 51 #[.pointer (some ⟨b, 0, none⟩)] w fun e w' => e = .returned (.tuple #[.int .u64 (vrd s.data.toList a).1, .int .i64 (vrd s.data.toList a).2.1]) ∧ St S W w' (rdT b s (vrd s.data.toList a).2.2 :: M) := by
  go_enter Tryz.func51, Tryz.ntmps51
  go_wp2_with fail
  go_loopw [2, 7] (fun vn vk wr => ∃ (n k : Nat), vn = .int .u64 n ∧ vk = .int .i64 k ∧ k ≤ 9 ∧ n < 128 ^ k ∧ a + k ≤ s.size ∧ Hid (vgo s.data.toList a (10 - k) k n = vrd s.data.toList a) ∧ St S W wr (rdT b s (a + k) :: M)) (fun _ vk _ => 10 - (intOf vk).toNat)
  case atStart => exact ⟨0, 0, rfl, rfl, by omega, by simp, by omega, Lib.hid rfl, h⟩
  case round =>
    clear h
    obtain ⟨n, k, rfl, rfl, hk, hn, hak, HE, h⟩ := hrel
    by_cases hlt : a + k < s.size
    · have HB := Lib.hid (byte_st h (by unfold maxLen; omega) hlt)
      have hgd : (s.data.toList.getD (a + k) 0) = s[a + k] := by
        rw [List.getD_eq_getElem?_getD, List.getElem?_eq_getElem (by simpa using hlt)]; rfl
      have HG := Lib.hid hgd
      have hx8 := s[a + k].toNat_lt
      generalize hx : s[a + k].toNat = x at HB hx8
      have hxg : (s.data.toList.getD (a + k) 0).toNat = x := by rw [hgd, hx]
      have hltl : a + k < s.data.toList.length := by simpa using hlt
      clear hx hgd HG
      by_cases hbad : 0 < k ∧ x = 0 ∨ k = 9 ∧ 1 < x
      · have HR := Lib.hid (HE.out.symm.trans (vgo_bad _ a k n x hk hltl hxg hbad))
        clear hxg hltl HE
        rcases hbad with ⟨h3, rfl⟩ | ⟨rfl, h3⟩
        · have hx4 : (0 : Int) < k := by omega
          go_wp2_with (go_at_call 79; refine HB.out.mono ?_; rintro e w1 ⟨rfl, h1⟩)
          go_ret2
          rw [HR.out]
          exact ⟨rfl, h1⟩
        · have hx4 : (1 : Int) < x := by omega
          have hx5 : ((x : Int) == 0) = false := by rw [beq_eq_false_iff_ne]; omega
          go_wp2_with (go_at_call 79; refine HB.out.mono ?_; rintro e w1 ⟨rfl, h1⟩)
          go_ret2
          rw [HR.out]
          exact ⟨rfl, h1⟩
      · have HR := Lib.hid (HE.out.symm.trans (vgo_step _ a k n x hk hltl hxg hbad))
        clear hxg hltl HE
        have h3 : k = 0 ∨ k = 9 ∧ x ≤ 1 ∨ (0 < k ∧ k < 9) := by omega
        have hor := or_group k n x (128 ^ k) rfl hk hn hx8 (by omega)
        have hN2 : n + x % 128 * 128 ^ k < 128 ^ (k + 1) := by
          have : x % 128 * 128 ^ k ≤ 127 * 128 ^ k := Nat.mul_le_mul_right _ (by omega)
          rw [Nat.pow_succ]; omega
        obtain ⟨N, hN⟩ : ∃ N, N = n + x % 128 * 128 ^ k := ⟨_, rfl⟩
        rw [← hN] at hor hN2 HR
        have HN2 := Lib.hid hN2
        have hx0 : 0 < k → x ≠ 0 := by omega
        clear hN hbad hN2
        rcases h3 with rfl | ⟨rfl, hx1⟩ | ⟨h3, h4⟩
        · rw [show (((128 : Nat) ^ 0 : Nat) : Int) = 1 from rfl, Int.mul_one] at hor
          by_cases h128 : x < 128
          · rw [if_pos h128] at HR
            go_wp2_with (go_at_call 79; refine HB.out.mono ?_; rintro e w1 ⟨rfl, h1⟩)
            go_ret2
            rw [HR.out]
            exact ⟨rfl, h1⟩
          · rw [if_neg h128] at HR
            go_wp2_with (go_at_call 79; refine HB.out.mono ?_; rintro e w1 ⟨rfl, h1⟩)
            go_roundw
            case rel => first | exact ⟨N, _, rfl, by go_num, by omega, HN2.out, by omega, Lib.hid HR.out.symm, h1⟩ | ((repeat apply Exists.intro); exact ⟨⟨N, _, rfl, by go_num, by omega, HN2.out, by omega, Lib.hid HR.out.symm, h1⟩, rfl⟩)
            case measure => first | (simp [intOf]; done) | (simp [intOf]; omega)
        · rw [show (((128 : Nat) ^ 9 : Nat) : Int) = 9223372036854775808 from rfl] at hor
          have hx2 : ¬ (1 : Int) < x := by omega
          have hx6 : x < 128 := by omega
          have hx5 : ((x : Int) == 0) = false := by have := hx0 (by omega); rw [beq_eq_false_iff_ne]; omega
          clear hx0
          rw [if_pos hx6] at HR
          go_wp2_with (go_at_call 79; refine HB.out.mono ?_; rintro e w1 ⟨rfl, h1⟩)
          all_goals go_ret2
          all_goals rw [HR.out]
          all_goals exact ⟨rfl, h1⟩
        · rw [show (((128 : Nat) ^ k : Nat) : Int) = 2 ^ (7 * k) by rw [show (128 : Nat) = 2 ^ 7 from rfl, ← Nat.pow_mul]; push_cast; rfl] at hor
          have hx2 : ((x : Int) == 0) = false := by have := hx0 h3; rw [beq_eq_false_iff_ne]; omega
          clear hx0
          have hx3 : ((k : Int) == 9) = false := by rw [beq_eq_false_iff_ne]; omega
          have hx4 : (0 : Int) < k := by omega
          by_cases h128 : x < 128
          · rw [if_pos h128] at HR
            go_wp2_with (go_at_call 79; refine HB.out.mono ?_; rintro e w1 ⟨rfl, h1⟩)
            go_ret2
            rw [HR.out]
            exact ⟨rfl, h1⟩
          · rw [if_neg h128] at HR
            go_wp2_with (go_at_call 79; refine HB.out.mono ?_; rintro e w1 ⟨rfl, h1⟩)
            go_roundw
            case rel => first | exact ⟨N, _, rfl, by go_num, by omega, HN2.out, by omega, Lib.hid HR.out.symm, h1⟩ | ((repeat apply Exists.intro); exact ⟨⟨N, _, rfl, by go_num, by omega, HN2.out, by omega, Lib.hid HR.out.symm, h1⟩, rfl⟩)
            case measure => first | (simp [intOf]; done) | (simp [intOf]; omega)
    · obtain ⟨q, hq⟩ : ∃ q, q = a + k := ⟨_, rfl⟩
      have hq2 : q = s.size := by omega
      have HR := Lib.hid (HE.out.symm.trans (vgo_end _ a k n hk (by rw [← hq, hq2]; simp)))
      rw [← hq] at h
      have HB := Lib.hid (byte_end_st h (by unfold maxLen; omega) hq2)
      have HQ := Lib.hid hq2
      clear hq hq2 HE hak hlt
      go_wp2_with (go_at_call 79; refine HB.out.mono ?_; rintro e w1 ⟨rfl, h1⟩)
      go_ret2
      rw [HR.out]
      refine ⟨rfl, ?_⟩
      rw [HQ.out] at h1
      simpa using h1
theorem vread_nil (w : World) : Calls Tryz.prog 51 #[.pointer none] w fun e w' => e = .returned (.tuple #[.int .u64 0, .int .i64 15]) ∧ w = w' := by
  go_enter Tryz.func51, Tryz.ntmps51
  go_wp2_with fail
  go_loop [2, 7] (fun vn vk => vn = .int .u64 0 ∧ vk = .int .i64 0) (fun _ vk => 10 - (intOf vk).toNat)
  case atStart => exact ⟨rfl, rfl⟩
  case round =>
    obtain ⟨rfl, rfl⟩ := hrel
    go_wp2_with (go_at_call 79; refine (byte_nil _).mono ?_; rintro e w1 ⟨rfl, rfl⟩)
    go_ret2
    exact ⟨rfl, rfl⟩
/-- c digits from the i-th on -/
def vtop (l : List UInt8) (a : Nat) : Nat → Nat → Nat
  | _, 0 => 0
  | i, c + 1 => (l.getD (a + i) 0).toNat % 128 + 128 * vtop l a (i + 1) c
theorem vtop_le (l : List UInt8) (a : Nat) : ∀ i c, vtop l a i c ≤ vtop l a 0 (i + c)
  | 0, c => by rw [Nat.zero_add]; exact Nat.le_refl _
  | i + 1, c => by
    have h := vtop_le l a i (c + 1)
    rw [vtop, show i + (c + 1) = i + 1 + c by omega] at h
    omega
theorem vtop_last (l : List UInt8) (a : Nat) : ∀ c i, vtop l a i (c + 1) = vtop l a i c + (l.getD (a + i + c) 0).toNat % 128 * 128 ^ c
  | 0, i => by simp [vtop]
  | c + 1, i => by
    rw [vtop, vtop_last l a c (i + 1), vtop, Nat.pow_succ, show a + (i + 1) + c = a + i + (c + 1) by omega]
    have : ∀ x y : Nat, 128 * (x * y) = x * (y * 128) := fun x y => by rw [Nat.mul_comm, Nat.mul_assoc]
    rw [Nat.mul_add, this]; omega
end Go.Proofs.YtjdglpngcdcneaaGreat

/- Layer 2: lists of numbers. -/
namespace Go.Proofs.YtjdglpngcdcneaaGreat
open Go.RowKit
set_option linter.unusedVariables false
set_option linter.unusedSimpArgs false
/-- n numbers that stand at a; an error; the place behind -/
def vls (l : List UInt8) : Nat → Nat → List Nat → List Nat × Nat × Nat
  | 0, a, acc => (acc, 0, a)
  | n + 1, a, acc => if (vrd l a).2.1 = 0 then vls l n (vrd l a).2.2 (acc ++ [(vrd l a).1]) else ([], (vrd l a).2.1, (vrd l a).2.2)
def vrl (l : List UInt8) (a : Nat) (most : Int) : List Nat × Nat × Nat :=
  if most < 0 then ([], 1, a)
  else if (vrd l a).2.1 = 0 then
    if most < (vrd l a).1 then ([], 4, (vrd l a).2.2) else vls l (vrd l a).1 (vrd l a).2.2 []
  else ([], (vrd l a).2.1, (vrd l a).2.2)
theorem vgo_adv (l : List UInt8) (a : Nat) : ∀ f k n, (vgo l a f k n).2.1 = 0 → a < (vgo l a f k n).2.2
  | 0, k, n, h => by simp [vgo] at h
  | f + 1, k, n, h => by
    rw [vgo] at h ⊢
    split at h
    · simp at h
    · rename_i h1
      rw [if_neg h1]
      split at h
      · simp at h
      · rename_i h2
        rw [if_neg h2]
        split at h
        · rename_i h3; rw [if_pos h3]; simp; omega
        · rename_i h3; rw [if_neg h3]; exact vgo_adv l a f _ _ h
theorem vrd_adv (l : List UInt8) (a : Nat) (h : (vrd l a).2.1 = 0) : a < (vrd l a).2.2 := vgo_adv l a 10 0 0 h
section
variable {S : Nat → Prop} {W w : World} {M : List Thing} {b : Nat} {s : ByteArray} {a : Nat}
set_option maxRecDepth 20000 in
set_option maxHeartbeats 4000000 in
theorem vreadlist_st (h : St S W w (rdT b s a :: M)) (hs : s.size ≤ 4200000) (ha : a ≤ s.size) (most : Int) (hm : -9223372036854775808 ≤ most ∧ most < 9223372036854775808) :
    Calls Tryz.prog 96 #[.pointer (some ⟨b, 0, none⟩), .int .i64 most] w fun e w' => ∃ v, e = .returned (.tuple #[v, .int .i64 (vrl s.data.toList a most).2.1]) ∧ St S W w' (nlT v (vrl s.data.toList a most).1 :: rdT b s (vrl s.data.toList a most).2.2 :: M) := by
  by_cases h0 : most < 0
  · rw [vrl, if_pos h0]
    go_enter Tryz.func96, Tryz.ntmps96
    go_wp2_with fail
    go_ret2
    exact ⟨_, rfl, h.nilOwn _ _⟩
  · obtain ⟨most, rfl⟩ : ∃ k : Nat, most = k := ⟨most.toNat, by omega⟩
    have HR := Lib.hid (show vrl s.data.toList a most = if (vrd s.data.toList a).2.1 = 0 then if (most : Int) < (vrd s.data.toList a).1 then ([], 4, (vrd s.data.toList a).2.2) else vls s.data.toList (vrd s.data.toList a).1 (vrd s.data.toList a).2.2 [] else ([], (vrd s.data.toList a).2.1, (vrd s.data.toList a).2.2) by rw [vrl, if_neg h0])
    generalize vrl s.data.toList a most = R at HR ⊢
    have hf := vrd_facts s.data.toList a (by simpa using ha)
    have HV := Lib.hid (vread_st h (by omega) ha)
    have hadv := vrd_adv s.data.toList a
    obtain ⟨⟨n, er, en⟩, hT⟩ : ∃ T, T = vrd s.data.toList a := ⟨_, rfl⟩
    rw [← hT] at HV HR hf hadv
    clear hT h
    obtain ⟨hn, her, hen, hel⟩ := hf
    simp only at hn her hen hel hadv HR HV
    rw [show s.data.toList.length = s.size by simp] at hel
    by_cases he : er = 0
    · subst he
      rw [if_pos rfl] at HR
      by_cases hmn : (most : Int) < n
      · rw [if_pos hmn] at HR
        go_enter Tryz.func96, Tryz.ntmps96
        go_wp2_with (go_at_call 51; refine HV.out.mono ?_; rintro e w1 ⟨rfl, h1⟩)
        go_ret2
        rw [HR.out]
        exact ⟨_, rfl, h1.nilOwn _ _⟩
      · rw [if_neg hmn] at HR
        go_enter Tryz.func96, Tryz.ntmps96
        go_wp2_with (go_at_call 51; refine HV.out.mono ?_; rintro e w1 ⟨rfl, h1⟩)
        have h2 := h1.nilOwn 34 1
        clear h1 hadv
        go_loopw [8, 30] (fun vl vi wr => ∃ (i k at' : Nat) (v : Value) (L : List Nat), vl = v ∧ vi = .int .u64 i ∧ i ≤ n ∧ L.length = k ∧ k ≤ at' ∧ at' ≤ s.size ∧ Hid (R = vls s.data.toList (n - i) at' L) ∧ St S W wr (ownT 34 1 v k (numsV L) :: rdT b s at' :: M)) (fun _ vi _ => n - (intOf vi).toNat)
        case atStart => exact ⟨0, 0, en, _, [], rfl, rfl, by omega, rfl, by omega, hel, HR, h2⟩
        case round =>
          clear h2 HV HR
          obtain ⟨i, k, at', v, L, rfl, rfl, hi, hL, hka, hat, HR, h⟩ := hrel
          obtain ⟨A, c, rfl⟩ := h.own.form
          by_cases hlt : i < n
          · have hR := HR.out
            rw [show n - i = (n - (i + 1)) + 1 by omega, vls] at hR
            have hf := vrd_facts s.data.toList at' (by simpa using hat)
            have HV := Lib.hid (vread_st h.swap (by omega) hat)
            have hadv := vrd_adv s.data.toList at'
            obtain ⟨⟨n2, er, en2⟩, hT⟩ : ∃ T, T = vrd s.data.toList at' := ⟨_, rfl⟩
            rw [← hT] at HV hR hf hadv
            clear hT HR
            obtain ⟨hn2, her2, hen2, hel2⟩ := hf
            simp only at hn2 her2 hen2 hel2 hadv hR HV
            rw [show s.data.toList.length = s.size by simp] at hel2
            by_cases he : er = 0
            · subst he
              rw [if_pos rfl] at hR
              have hadv2 := hadv rfl
              have HR := Lib.hid hR
              clear hadv hR h
              go_wp2_with (first
                | (go_at_call 51; refine HV.out.mono ?_; rintro e w1 ⟨rfl, h1⟩; have h2 := h1.swap)
                | (at_builtin; refine wpList_push rfl _ _ _ rfl 34 (.int .u64 0) 1 8 Tryz.underlying46 u64_info rfl (by decide) h2 rfl rfl rfl (numsV_one [n2]) (by unfold maxLen; omega) (by omega) ?_; intro A' c' w3 h3))
              have h4 : St S W w3 (ownT 34 1 (.slice A' (k + 1) c') (k + 1) (numsV (L ++ [n2])) :: rdT b s en2 :: M) := by rw [numsV_append]; exact h3
              go_roundw
              case rel => first | exact ⟨_, _, _, _, _, _, ⟨i + 1, rfl, by omega, k + 1, en2, L ++ [n2], by simp [hL], by omega, hel2, HR, h4⟩, rfl, rfl, rfl, rfl, rfl, by go_num⟩ | exact ⟨i + 1, k + 1, en2, _, L ++ [n2], rfl, by go_num, by omega, by simp [hL], by omega, hel2, HR, h4⟩ | ((repeat apply Exists.intro); exact ⟨⟨i + 1, k + 1, en2, _, L ++ [n2], rfl, by go_num, by omega, by simp [hL], by omega, hel2, HR, h4⟩, rfl⟩)
              case measure => simp [intOf]; omega
            · rw [if_neg he] at hR
              have HR := Lib.hid hR
              have hne : ((er : Int) != 0) = true := by rw [bne_iff_ne]; omega
              clear he hR hadv h
              go_wp2_with (go_at_call 51; refine HV.out.mono ?_; rintro e w1 ⟨rfl, h1⟩)
              go_ret2
              rw [HR.out]
              exact ⟨_, rfl, h1.swap.drop.nilOwn _ _⟩
          · obtain rfl : i = n := by omega
            rw [Nat.sub_self, vls] at HR
            subst hL
            go_wp2_with fail
            go_ret2
            rw [HR.out]
            exact ⟨_, rfl, h⟩
    · rw [if_neg he] at HR
      have hne : ((er : Int) != 0) = true := by rw [bne_iff_ne]; omega
      have hne2 : ((er : Int) == 0) = false := by rw [beq_eq_false_iff_ne]; omega
      clear he hadv
      go_enter Tryz.func96, Tryz.ntmps96
      go_wp2_with (go_at_call 51; refine HV.out.mono ?_; rintro e w1 ⟨rfl, h1⟩)
      go_ret2
      rw [HR.out]
      exact ⟨_, rfl, h1.nilOwn _ _⟩
end
end Go.Proofs.YtjdglpngcdcneaaGreat
