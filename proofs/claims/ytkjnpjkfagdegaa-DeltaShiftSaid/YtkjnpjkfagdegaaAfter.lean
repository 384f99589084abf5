/- A region that draws its order, whose operations read, and whose calls make memory and turn nothing that was there: one walk, in the order of the text, in 'some world behind w0' (After w0). -/
import Derived.Test.YtkjnpjkfagdegaaMut
import Derived.Deep.QuietTactic
import Derived.BigQuiet
namespace Go.Proofs.Ytkjnpjkfagdegaa
open Go.RowKit
set_option linter.unusedVariables false

/-- a world behind w0: nothing that was there has turned -/
structure After (w0 : World) where
  w : World
  ext : Ext w0 w
instance (w0 : World) : Nonempty (After w0) := ⟨⟨w0, Mut.refl _ _⟩⟩

section
variable {P : Program} {w0 : World}
@[go_sem] theorem After.cell (x : After w0) (a : Addr) (h : a.block < w0.heap.size) : x.w.cell? a = w0.cell? a := World.cell?_of_block (w := w0) (x.ext.block a.block h (fun x => x))
@[go_sem] theorem After.frozen (x : After w0) (a : Addr) (h : a.block < w0.heap.size) : x.w.frozen? a = w0.frozen? a := World.frozen?_of_block (w := w0) (x.ext.block a.block h (fun x => x))
theorem After.heap (x : After w0) {k : Nat} {o : Obj} (h : w0.heap[k]? = some o) : x.w.heap[k]? = some o := x.ext.heap h
/-- a callee that makes memory alone -/
theorem Calls.after {f : FuncId} {args : Array Value} {x : After w0} {v : Value}
    (h : Calls P f args x.w fun e w' => e = .returned v ∧ Ext x.w w') : Calls P f args x.w fun e w'' => e = .returned v ∧ ∃ y : After w0, w'' = y.w :=
  h.mono fun _ w' ⟨he, hm⟩ => ⟨he, ⟨w', x.ext.trans hm⟩, rfl⟩
theorem Calls.after_same {f : FuncId} {args : Array Value} {x : After w0} {v : Value}
    (h : Calls P f args x.w fun e w' => e = .returned v ∧ x.w = w') : Calls P f args x.w fun e w'' => e = .returned v ∧ ∃ y : After w0, w'' = y.w :=
  h.mono fun _ w' ⟨he, hm⟩ => ⟨he, x, hm.symm⟩
/-- the region -/
theorem wp_region_after {id : Nat} {Q : Exit → Act → World → Prop} {a : Act} {l : List Oper} (hm : P.follows .mixedOrders = true) (hB : Region.lexB .any l.toArray = true)
    (h : wpQuiet P l.toArray (fun w' => ∃ x : After w0, w' = x.w) (fun a' => ∀ w', (∃ x : After w0, w' = x.w) → Q .normal a' w') l a) : (Code.region id l.toArray true).wp P Q a w0 :=
  wp_region_quiet (C := fun w' => ∃ x : After w0, w' = x.w) hm hB ⟨⟨_, (Mut.refl noB w0).drew⟩, rfl⟩ (by simpa using h)
/-- a whole row is read -/
theorem quiet_load_row {o : Oper} {a : Act} {K : Act → Prop} (ty : TypeId) (x : Operand) (ho : o.op = .load ty x) (g : Nat) (hx : a.eval x = .pointer (some ⟨g, 0, none⟩)) (t : TypeId) (cs : Array Value) (fr : Nat × Nat) (d : TypeDesc)
    (hg : w0.heap[g]? = some (.cells cs t fr)) (hu : P.underlying ty = some d) (hd : (match d with | .struct _ | .array _ _ => true | _ => false) = true) (hi : (P.info? ty).map (·.size) = some cs.size)
    (hk : K (a.put o.dst (.agg cs))) : o.quiet P a (fun w' => ∃ x : After w0, w' = x.w) K := by
  refine ⟨_, ?_, hk⟩
  rintro w ⟨y, rfl⟩
  unfold Oper.quietAt execOp
  simp only [ho, hx, Instr.loadAt, Instr.sureAddr, Sem.run_bind, Sem.run_pure, Result.andThen_ok, run_loadVar_row y.w g t ty cs fr d (y.heap hg) hu hd hi]
  exact ⟨rfl, rfl⟩
end
end Go.Proofs.Ytkjnpjkfagdegaa
