/-
  No cell of these rows narrows 'for every input' (looked for: loops, veiled, ifaces, maps, wideKeys, modest, calm, conditions, laid).
  DERIVED. THE GIVEN ROWS OF THIS SEAT. 5 by the template 'for every input the law returns true; each argument reads behind the call as it read before'; 0 by the template 'total and deterministic' (their statements: YtkjnpjkfagdegaaTotals.lean).
  GIVEN WITH THE SEED: the statements are not yours to turn. If you find one false, say at which input.
  Laid BY PROGRAM, IN A SANDBOX (cutbox-rows.mjs): the forced cells as the released guide's own fill.sh prints them over the translation 272b2897347dd719… (all of the seat's roots in one cut). By AI agents, Wed Nov 11 2026. No macro, syntax, notation, axiom, sorry.
-/
import Derived.Test.YtkjnpjkfagdegaaChecked
import GoSem.Claim
import GoSem.ClaimJoined
import GoSem.ClaimMapViews
import Derived.JoinedTies
import Derived.KernelRfl
namespace Go.Proofs.Ytkjnpjkfagdegaa
/- THE CELL 'sum', in the pinned program and in every row, IS THE sha256 OF THE DUMP (.gsa) THAT YtkjnpjkfagdegaaProg.lean LOADS. Nothing in Lean hashes anything: it is a label: what it is worth is what the hold of that sum in a sandbox is worth. -/
noncomputable def Try.pinned : Pinned := { name := "ytkjnpjkfagdegaa", sum := "272b2897347dd71970977d8e8fd90113171e5c02682c140aafb9d63fc3486c73", checked := Try.checked }
namespace Rows
def none {H : Type} : Left H := { results := [], args := [] }

/-- 'rondeaulaw03.DeltaZigs': WHATEVER THE INPUT: true; the input reads as it did. -/
def deltaZigsSpec : ChangeSpec := { name := "deltaZigs", fn := fun _ => fun
  | [d1, d2, d3] => { results := [.lit (.bool true)], args := [d1, d2, d3] }
  | _ => none }
def deltaZigsRow : OpenClaim := { program := "ytkjnpjkfagdegaa", sum := "272b2897347dd71970977d8e8fd90113171e5c02682c140aafb9d63fc3486c73", func := "rondeau/rondeaulaw03.DeltaZigs", spec := "deltaZigs", apart := false }
def DeltaZigsSaid : Prop := deltaZigsRow.holds Try.pinned (OpenSpec.ofChange deltaZigsSpec)

/-- ITS FALSE NEIGHBOUR: 'it returns false'. Refute it at one input. -/
def deltaZigsWrong : ChangeSpec := { name := "deltaZigs", fn := fun _ => fun
  | [d1, d2, d3] => { results := [.lit (.bool false)], args := [d1, d2, d3] }
  | _ => none }
def DeltaZigsWrongFalsely : Prop := deltaZigsRow.holds Try.pinned (OpenSpec.ofChange deltaZigsWrong)

/-- 'rondeaulaw03.DeltaBack': WHATEVER THE INPUT: true; the input reads as it did. -/
def deltaBackSpec : ChangeSpec := { name := "deltaBack", fn := fun _ => fun
  | [d] => { results := [.lit (.bool true)], args := [d] }
  | _ => none }
def deltaBackRow : OpenClaim := { program := "ytkjnpjkfagdegaa", sum := "272b2897347dd71970977d8e8fd90113171e5c02682c140aafb9d63fc3486c73", func := "rondeau/rondeaulaw03.DeltaBack", spec := "deltaBack", apart := false }
def DeltaBackSaid : Prop := deltaBackRow.holds Try.pinned (OpenSpec.ofChange deltaBackSpec)

/-- ITS FALSE NEIGHBOUR: 'it returns false'. Refute it at one input. -/
def deltaBackWrong : ChangeSpec := { name := "deltaBack", fn := fun _ => fun
  | [d] => { results := [.lit (.bool false)], args := [d] }
  | _ => none }
def DeltaBackWrongFalsely : Prop := deltaBackRow.holds Try.pinned (OpenSpec.ofChange deltaBackWrong)

/-- 'rondeaulaw03.DeltaShort': WHATEVER THE INPUT: true; the input reads as it did. -/
def deltaShortSpec : ChangeSpec := { name := "deltaShort", fn := fun _ => fun
  | [d1, d2] => { results := [.lit (.bool true)], args := [d1, d2] }
  | _ => none }
def deltaShortRow : OpenClaim := { program := "ytkjnpjkfagdegaa", sum := "272b2897347dd71970977d8e8fd90113171e5c02682c140aafb9d63fc3486c73", func := "rondeau/rondeaulaw03.DeltaShort", spec := "deltaShort", apart := false }
def DeltaShortSaid : Prop := deltaShortRow.holds Try.pinned (OpenSpec.ofChange deltaShortSpec)

/-- ITS FALSE NEIGHBOUR: 'it returns false'. Refute it at one input. -/
def deltaShortWrong : ChangeSpec := { name := "deltaShort", fn := fun _ => fun
  | [d1, d2] => { results := [.lit (.bool false)], args := [d1, d2] }
  | _ => none }
def DeltaShortWrongFalsely : Prop := deltaShortRow.holds Try.pinned (OpenSpec.ofChange deltaShortWrong)

/-- 'rondeaulaw03.DeltaShift': WHATEVER THE INPUT: true; the input reads as it did. -/
def deltaShiftSpec : ChangeSpec := { name := "deltaShift", fn := fun _ => fun
  | [d1, d2] => { results := [.lit (.bool true)], args := [d1, d2] }
  | _ => none }
def deltaShiftRow : OpenClaim := { program := "ytkjnpjkfagdegaa", sum := "272b2897347dd71970977d8e8fd90113171e5c02682c140aafb9d63fc3486c73", func := "rondeau/rondeaulaw03.DeltaShift", spec := "deltaShift", apart := false }
def DeltaShiftSaid : Prop := deltaShiftRow.holds Try.pinned (OpenSpec.ofChange deltaShiftSpec)

/-- ITS FALSE NEIGHBOUR: 'it returns false'. Refute it at one input. -/
def deltaShiftWrong : ChangeSpec := { name := "deltaShift", fn := fun _ => fun
  | [d1, d2] => { results := [.lit (.bool false)], args := [d1, d2] }
  | _ => none }
def DeltaShiftWrongFalsely : Prop := deltaShiftRow.holds Try.pinned (OpenSpec.ofChange deltaShiftWrong)

/-- 'rondeaulaw03.DeltaPrints': WHATEVER THE INPUT: true; the input reads as it did. -/
def deltaPrintsSpec : ChangeSpec := { name := "deltaPrints", fn := fun _ => fun
  | [d1, d2] => { results := [.lit (.bool true)], args := [d1, d2] }
  | _ => none }
def deltaPrintsRow : OpenClaim := { program := "ytkjnpjkfagdegaa", sum := "272b2897347dd71970977d8e8fd90113171e5c02682c140aafb9d63fc3486c73", func := "rondeau/rondeaulaw03.DeltaPrints", spec := "deltaPrints", apart := false }
def DeltaPrintsSaid : Prop := deltaPrintsRow.holds Try.pinned (OpenSpec.ofChange deltaPrintsSpec)

/-- ITS FALSE NEIGHBOUR: 'it returns false'. Refute it at one input. -/
def deltaPrintsWrong : ChangeSpec := { name := "deltaPrints", fn := fun _ => fun
  | [d1, d2] => { results := [.lit (.bool false)], args := [d1, d2] }
  | _ => none }
def DeltaPrintsWrongFalsely : Prop := deltaPrintsRow.holds Try.pinned (OpenSpec.ofChange deltaPrintsWrong)

/- THE SECOND FORM. 'bulk': how many values and letters a reading holds, each counted each time it is reached (what is shared counts as often as it is met; a slice's spare places count too). A statement '..UptoSaid' is the law's where the arguments, and the package variables that the reading takes, are together of bulk at most 1048576: NARROWER than '..Said'. Prove '..Said' where nothing that the law and all that it calls make is longer than what came in: it says more and counts as full. Else prove '..UptoSaid'. A law counts once. -/
mutual
def uptoBulk {H : Type} : DataW H → Nat
  | .lit (.string bytes) => bytes.length + 1
  | .lit _ => 1
  | .nil => 1
  | .ptr d => uptoBulk d + 1
  | .slice elems spare => uptoBulkAll elems + uptoBulkAll spare + 1
  | .agg parts => uptoBulkAll parts + 1
  | .iface _ d => uptoBulk d + 1
  | .map entries => uptoBulkEntries entries + 1
  | .held _ => 1
def uptoBulkAll {H : Type} : List (DataW H) → Nat
  | [] => 0
  | d :: r => uptoBulk d + uptoBulkAll r
def uptoBulkEntries {H : Type} : List (Lit × DataW H) → Nat
  | [] => 0
  | x :: r => uptoBulkEntry x + uptoBulkEntries r
def uptoBulkEntry {H : Type} : Lit × DataW H → Nat
  | (.string bytes, d) => bytes.length + uptoBulk d + 1
  | (_, d) => uptoBulk d + 1
 end
def uptoSmall : (H : Type) → List (DataW H) → Bool := fun _ ds => decide (uptoBulkAll ds ≤ 1048576)
def OpenSpec.upto (s : _root_.Go.ChangeSpec) : _root_.Go.OpenSpec := { _root_.Go.OpenSpec.ofChange s with cond := some uptoSmall }

/-- 'rondeaulaw03.DeltaZigs', WHERE WHAT IT READS IS OF BULK AT MOST 1048576: true; the input reads as it did. -/
def deltaZigsUptoRow : OpenClaim := { program := "ytkjnpjkfagdegaa", sum := "272b2897347dd71970977d8e8fd90113171e5c02682c140aafb9d63fc3486c73", func := "rondeau/rondeaulaw03.DeltaZigs", spec := "deltaZigs", apart := false, narrowed := true }
def DeltaZigsUptoSaid : Prop := deltaZigsUptoRow.holds Try.pinned (OpenSpec.upto deltaZigsSpec)

/-- 'rondeaulaw03.DeltaBack', WHERE WHAT IT READS IS OF BULK AT MOST 1048576: true; the input reads as it did. -/
def deltaBackUptoRow : OpenClaim := { program := "ytkjnpjkfagdegaa", sum := "272b2897347dd71970977d8e8fd90113171e5c02682c140aafb9d63fc3486c73", func := "rondeau/rondeaulaw03.DeltaBack", spec := "deltaBack", apart := false, narrowed := true }
def DeltaBackUptoSaid : Prop := deltaBackUptoRow.holds Try.pinned (OpenSpec.upto deltaBackSpec)

/-- 'rondeaulaw03.DeltaShort', WHERE WHAT IT READS IS OF BULK AT MOST 1048576: true; the input reads as it did. -/
def deltaShortUptoRow : OpenClaim := { program := "ytkjnpjkfagdegaa", sum := "272b2897347dd71970977d8e8fd90113171e5c02682c140aafb9d63fc3486c73", func := "rondeau/rondeaulaw03.DeltaShort", spec := "deltaShort", apart := false, narrowed := true }
def DeltaShortUptoSaid : Prop := deltaShortUptoRow.holds Try.pinned (OpenSpec.upto deltaShortSpec)

/-- 'rondeaulaw03.DeltaShift', WHERE WHAT IT READS IS OF BULK AT MOST 1048576: true; the input reads as it did. -/
def deltaShiftUptoRow : OpenClaim := { program := "ytkjnpjkfagdegaa", sum := "272b2897347dd71970977d8e8fd90113171e5c02682c140aafb9d63fc3486c73", func := "rondeau/rondeaulaw03.DeltaShift", spec := "deltaShift", apart := false, narrowed := true }
def DeltaShiftUptoSaid : Prop := deltaShiftUptoRow.holds Try.pinned (OpenSpec.upto deltaShiftSpec)

/-- 'rondeaulaw03.DeltaPrints', WHERE WHAT IT READS IS OF BULK AT MOST 1048576: true; the input reads as it did. -/
def deltaPrintsUptoRow : OpenClaim := { program := "ytkjnpjkfagdegaa", sum := "272b2897347dd71970977d8e8fd90113171e5c02682c140aafb9d63fc3486c73", func := "rondeau/rondeaulaw03.DeltaPrints", spec := "deltaPrints", apart := false, narrowed := true }
def DeltaPrintsUptoSaid : Prop := deltaPrintsUptoRow.holds Try.pinned (OpenSpec.upto deltaPrintsSpec)

end Rows
end Go.Proofs.Ytkjnpjkfagdegaa
