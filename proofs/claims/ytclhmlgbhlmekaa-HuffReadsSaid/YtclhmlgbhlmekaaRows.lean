/-
  No cell of these rows narrows 'for every input' (looked for: loops, veiled, ifaces, maps, wideKeys, modest, calm, conditions, laid).
  DERIVED. THE GIVEN ROWS OF THIS SEAT. 7 by the template 'for every input the law returns true; each argument reads behind the call as it read before'; 0 by the template 'total and deterministic' (their statements: YtclhmlgbhlmekaaTotals.lean).
  GIVEN WITH THE SEED: the statements are not yours to turn. If you find one false, say at which input.
  Laid BY PROGRAM, IN A SANDBOX (cutbox-rows.mjs): the forced cells as the released guide's own fill.sh prints them over the translation fb50df088ed9e637… (all of the seat's roots in one cut). By AI agents, Wed Nov 11 2026. No macro, syntax, notation, axiom, sorry.
-/
import Derived.Test.YtclhmlgbhlmekaaChecked
import GoSem.Claim
import GoSem.ClaimJoined
import GoSem.ClaimMapViews
import Derived.JoinedTies
import Derived.KernelRfl
namespace Go.Proofs.Ytclhmlgbhlmekaa
/- THE CELL 'sum', in the pinned program and in every row, IS THE sha256 OF THE DUMP (.gsa) THAT YtclhmlgbhlmekaaProg.lean LOADS. Nothing in Lean hashes anything: it is a label: what it is worth is what the hold of that sum in a sandbox is worth. -/
noncomputable def Try.pinned : Pinned := { name := "ytclhmlgbhlmekaa", sum := "fb50df088ed9e6376020a0fd161ee6bdca6f4e5cc383dd909c1ef92818cf56ce", checked := Try.checked }
namespace Rows
def none {H : Type} : Left H := { results := [], args := [] }

/-- 'rondeaulaw07.HuffLengths': WHATEVER THE INPUT: true; the input reads as it did. -/
def huffLengthsSpec : ChangeSpec := { name := "huffLengths", fn := fun _ => fun
  | [d] => { results := [.lit (.bool true)], args := [d] }
  | _ => none }
def huffLengthsRow : OpenClaim := { program := "ytclhmlgbhlmekaa", sum := "fb50df088ed9e6376020a0fd161ee6bdca6f4e5cc383dd909c1ef92818cf56ce", func := "rondeau/rondeaulaw07.HuffLengths", spec := "huffLengths", unfollowed := true, recurses := true, plainKeys := false, apart := false }
def HuffLengthsSaid : Prop := huffLengthsRow.holds Try.pinned (OpenSpec.ofChange huffLengthsSpec)

/-- ITS FALSE NEIGHBOUR: 'it returns false'. Refute it at one input. -/
def huffLengthsWrong : ChangeSpec := { name := "huffLengths", fn := fun _ => fun
  | [d] => { results := [.lit (.bool false)], args := [d] }
  | _ => none }
def HuffLengthsWrongFalsely : Prop := huffLengthsRow.holds Try.pinned (OpenSpec.ofChange huffLengthsWrong)

/-- 'rondeaulaw07.HuffCodes': WHATEVER THE INPUT: true; the input reads as it did. -/
def huffCodesSpec : ChangeSpec := { name := "huffCodes", fn := fun _ => fun
  | [d] => { results := [.lit (.bool true)], args := [d] }
  | _ => none }
def huffCodesRow : OpenClaim := { program := "ytclhmlgbhlmekaa", sum := "fb50df088ed9e6376020a0fd161ee6bdca6f4e5cc383dd909c1ef92818cf56ce", func := "rondeau/rondeaulaw07.HuffCodes", spec := "huffCodes", unfollowed := true, recurses := true, plainKeys := false, apart := false }
def HuffCodesSaid : Prop := huffCodesRow.holds Try.pinned (OpenSpec.ofChange huffCodesSpec)

/-- ITS FALSE NEIGHBOUR: 'it returns false'. Refute it at one input. -/
def huffCodesWrong : ChangeSpec := { name := "huffCodes", fn := fun _ => fun
  | [d] => { results := [.lit (.bool false)], args := [d] }
  | _ => none }
def HuffCodesWrongFalsely : Prop := huffCodesRow.holds Try.pinned (OpenSpec.ofChange huffCodesWrong)

/-- 'rondeaulaw07.HuffPacks': WHATEVER THE INPUT: true; the input reads as it did. -/
def huffPacksSpec : ChangeSpec := { name := "huffPacks", fn := fun _ => fun
  | [d] => { results := [.lit (.bool true)], args := [d] }
  | _ => none }
def huffPacksRow : OpenClaim := { program := "ytclhmlgbhlmekaa", sum := "fb50df088ed9e6376020a0fd161ee6bdca6f4e5cc383dd909c1ef92818cf56ce", func := "rondeau/rondeaulaw07.HuffPacks", spec := "huffPacks", unfollowed := true, recurses := true, plainKeys := false, apart := false }
def HuffPacksSaid : Prop := huffPacksRow.holds Try.pinned (OpenSpec.ofChange huffPacksSpec)

/-- ITS FALSE NEIGHBOUR: 'it returns false'. Refute it at one input. -/
def huffPacksWrong : ChangeSpec := { name := "huffPacks", fn := fun _ => fun
  | [d] => { results := [.lit (.bool false)], args := [d] }
  | _ => none }
def HuffPacksWrongFalsely : Prop := huffPacksRow.holds Try.pinned (OpenSpec.ofChange huffPacksWrong)

/-- 'rondeaulaw07.HuffBack': WHATEVER THE INPUT: true; the input reads as it did. -/
def huffBackSpec : ChangeSpec := { name := "huffBack", fn := fun _ => fun
  | [d] => { results := [.lit (.bool true)], args := [d] }
  | _ => none }
def huffBackRow : OpenClaim := { program := "ytclhmlgbhlmekaa", sum := "fb50df088ed9e6376020a0fd161ee6bdca6f4e5cc383dd909c1ef92818cf56ce", func := "rondeau/rondeaulaw07.HuffBack", spec := "huffBack", unfollowed := true, recurses := true, plainKeys := false, apart := false }
def HuffBackSaid : Prop := huffBackRow.holds Try.pinned (OpenSpec.ofChange huffBackSpec)

/-- ITS FALSE NEIGHBOUR: 'it returns false'. Refute it at one input. -/
def huffBackWrong : ChangeSpec := { name := "huffBack", fn := fun _ => fun
  | [d] => { results := [.lit (.bool false)], args := [d] }
  | _ => none }
def HuffBackWrongFalsely : Prop := huffBackRow.holds Try.pinned (OpenSpec.ofChange huffBackWrong)

/-- 'rondeaulaw07.HuffReads': WHATEVER THE INPUT: true; the input reads as it did. -/
def huffReadsSpec : ChangeSpec := { name := "huffReads", fn := fun _ => fun
  | [d1, d2] => { results := [.lit (.bool true)], args := [d1, d2] }
  | _ => none }
def huffReadsRow : OpenClaim := { program := "ytclhmlgbhlmekaa", sum := "fb50df088ed9e6376020a0fd161ee6bdca6f4e5cc383dd909c1ef92818cf56ce", func := "rondeau/rondeaulaw07.HuffReads", spec := "huffReads", unfollowed := true, recurses := true, plainKeys := false, apart := false }
def HuffReadsSaid : Prop := huffReadsRow.holds Try.pinned (OpenSpec.ofChange huffReadsSpec)

/-- ITS FALSE NEIGHBOUR: 'it returns false'. Refute it at one input. -/
def huffReadsWrong : ChangeSpec := { name := "huffReads", fn := fun _ => fun
  | [d1, d2] => { results := [.lit (.bool false)], args := [d1, d2] }
  | _ => none }
def HuffReadsWrongFalsely : Prop := huffReadsRow.holds Try.pinned (OpenSpec.ofChange huffReadsWrong)

/-- 'rondeaulaw07.HuffFree': WHATEVER THE INPUT: true; the input reads as it did. -/
def huffFreeSpec : ChangeSpec := { name := "huffFree", fn := fun _ => fun
  | [d1, d2, d3] => { results := [.lit (.bool true)], args := [d1, d2, d3] }
  | _ => none }
def huffFreeRow : OpenClaim := { program := "ytclhmlgbhlmekaa", sum := "fb50df088ed9e6376020a0fd161ee6bdca6f4e5cc383dd909c1ef92818cf56ce", func := "rondeau/rondeaulaw07.HuffFree", spec := "huffFree", unfollowed := true, recurses := true, plainKeys := false, apart := false }
def HuffFreeSaid : Prop := huffFreeRow.holds Try.pinned (OpenSpec.ofChange huffFreeSpec)

/-- ITS FALSE NEIGHBOUR: 'it returns false'. Refute it at one input. -/
def huffFreeWrong : ChangeSpec := { name := "huffFree", fn := fun _ => fun
  | [d1, d2, d3] => { results := [.lit (.bool false)], args := [d1, d2, d3] }
  | _ => none }
def HuffFreeWrongFalsely : Prop := huffFreeRow.holds Try.pinned (OpenSpec.ofChange huffFreeWrong)

/-- 'rondeaulaw07.HuffShort': WHATEVER THE INPUT: true; the input reads as it did. -/
def huffShortSpec : ChangeSpec := { name := "huffShort", fn := fun _ => fun
  | [d1, d2, d3] => { results := [.lit (.bool true)], args := [d1, d2, d3] }
  | _ => none }
def huffShortRow : OpenClaim := { program := "ytclhmlgbhlmekaa", sum := "fb50df088ed9e6376020a0fd161ee6bdca6f4e5cc383dd909c1ef92818cf56ce", func := "rondeau/rondeaulaw07.HuffShort", spec := "huffShort", unfollowed := true, recurses := true, plainKeys := false, apart := false }
def HuffShortSaid : Prop := huffShortRow.holds Try.pinned (OpenSpec.ofChange huffShortSpec)

/-- ITS FALSE NEIGHBOUR: 'it returns false'. Refute it at one input. -/
def huffShortWrong : ChangeSpec := { name := "huffShort", fn := fun _ => fun
  | [d1, d2, d3] => { results := [.lit (.bool false)], args := [d1, d2, d3] }
  | _ => none }
def HuffShortWrongFalsely : Prop := huffShortRow.holds Try.pinned (OpenSpec.ofChange huffShortWrong)

/- THE SECOND FORM. 'bulk': how many values and letters a reading holds, each counted each time it is reached (what is shared counts as often as it is met; a slice's spare places count too). A statement '..UptoSaid' is the law's where the arguments, and the package variables that the reading takes, are together of bulk at most 1048576: NARROWER than '..Said'. Prove '..Said' where nothing that the law and all that it calls make is longer than what came in: it says more and counts as full. Else prove '..UptoSaid'. A law counts once. -/
mutual
def uptoBulk {H : Type} : DataW H → Nat
  | .lit (.string bytes) => bytes.length + 1
  | .lit _ => 1
  | .nil => 1
  | .ptr d => uptoBulk d + 1
  | .slice elems spare => uptoBulkAll elems + uptoBulkAll spare + 1
  | .agg parts => uptoBulkAll parts + 1
  | .iface _ d => uptoBulk d + 1
  | .map entries => uptoBulkEntries entries + 1
  | .held _ => 1
def uptoBulkAll {H : Type} : List (DataW H) → Nat
  | [] => 0
  | d :: r => uptoBulk d + uptoBulkAll r
def uptoBulkEntries {H : Type} : List (Lit × DataW H) → Nat
  | [] => 0
  | x :: r => uptoBulkEntry x + uptoBulkEntries r
def uptoBulkEntry {H : Type} : Lit × DataW H → Nat
  | (.string bytes, d) => bytes.length + uptoBulk d + 1
  | (_, d) => uptoBulk d + 1
 end
def uptoSmall : (H : Type) → List (DataW H) → Bool := fun _ ds => decide (uptoBulkAll ds ≤ 1048576)
def OpenSpec.upto (s : _root_.Go.ChangeSpec) : _root_.Go.OpenSpec := { _root_.Go.OpenSpec.ofChange s with cond := some uptoSmall }

/-- 'rondeaulaw07.HuffLengths', WHERE WHAT IT READS IS OF BULK AT MOST 1048576: true; the input reads as it did. -/
def huffLengthsUptoRow : OpenClaim := { program := "ytclhmlgbhlmekaa", sum := "fb50df088ed9e6376020a0fd161ee6bdca6f4e5cc383dd909c1ef92818cf56ce", func := "rondeau/rondeaulaw07.HuffLengths", spec := "huffLengths", unfollowed := true, recurses := true, plainKeys := false, apart := false, narrowed := true }
def HuffLengthsUptoSaid : Prop := huffLengthsUptoRow.holds Try.pinned (OpenSpec.upto huffLengthsSpec)

/-- 'rondeaulaw07.HuffCodes', WHERE WHAT IT READS IS OF BULK AT MOST 1048576: true; the input reads as it did. -/
def huffCodesUptoRow : OpenClaim := { program := "ytclhmlgbhlmekaa", sum := "fb50df088ed9e6376020a0fd161ee6bdca6f4e5cc383dd909c1ef92818cf56ce", func := "rondeau/rondeaulaw07.HuffCodes", spec := "huffCodes", unfollowed := true, recurses := true, plainKeys := false, apart := false, narrowed := true }
def HuffCodesUptoSaid : Prop := huffCodesUptoRow.holds Try.pinned (OpenSpec.upto huffCodesSpec)

/-- 'rondeaulaw07.HuffPacks', WHERE WHAT IT READS IS OF BULK AT MOST 1048576: true; the input reads as it did. -/
def huffPacksUptoRow : OpenClaim := { program := "ytclhmlgbhlmekaa", sum := "fb50df088ed9e6376020a0fd161ee6bdca6f4e5cc383dd909c1ef92818cf56ce", func := "rondeau/rondeaulaw07.HuffPacks", spec := "huffPacks", unfollowed := true, recurses := true, plainKeys := false, apart := false, narrowed := true }
def HuffPacksUptoSaid : Prop := huffPacksUptoRow.holds Try.pinned (OpenSpec.upto huffPacksSpec)

/-- 'rondeaulaw07.HuffBack', WHERE WHAT IT READS IS OF BULK AT MOST 1048576: true; the input reads as it did. -/
def huffBackUptoRow : OpenClaim := { program := "ytclhmlgbhlmekaa", sum := "fb50df088ed9e6376020a0fd161ee6bdca6f4e5cc383dd909c1ef92818cf56ce", func := "rondeau/rondeaulaw07.HuffBack", spec := "huffBack", unfollowed := true, recurses := true, plainKeys := false, apart := false, narrowed := true }
def HuffBackUptoSaid : Prop := huffBackUptoRow.holds Try.pinned (OpenSpec.upto huffBackSpec)

/-- 'rondeaulaw07.HuffReads', WHERE WHAT IT READS IS OF BULK AT MOST 1048576: true; the input reads as it did. -/
def huffReadsUptoRow : OpenClaim := { program := "ytclhmlgbhlmekaa", sum := "fb50df088ed9e6376020a0fd161ee6bdca6f4e5cc383dd909c1ef92818cf56ce", func := "rondeau/rondeaulaw07.HuffReads", spec := "huffReads", unfollowed := true, recurses := true, plainKeys := false, apart := false, narrowed := true }
def HuffReadsUptoSaid : Prop := huffReadsUptoRow.holds Try.pinned (OpenSpec.upto huffReadsSpec)

/-- 'rondeaulaw07.HuffFree', WHERE WHAT IT READS IS OF BULK AT MOST 1048576: true; the input reads as it did. -/
def huffFreeUptoRow : OpenClaim := { program := "ytclhmlgbhlmekaa", sum := "fb50df088ed9e6376020a0fd161ee6bdca6f4e5cc383dd909c1ef92818cf56ce", func := "rondeau/rondeaulaw07.HuffFree", spec := "huffFree", unfollowed := true, recurses := true, plainKeys := false, apart := false, narrowed := true }
def HuffFreeUptoSaid : Prop := huffFreeUptoRow.holds Try.pinned (OpenSpec.upto huffFreeSpec)

/-- 'rondeaulaw07.HuffShort', WHERE WHAT IT READS IS OF BULK AT MOST 1048576: true; the input reads as it did. -/
def huffShortUptoRow : OpenClaim := { program := "ytclhmlgbhlmekaa", sum := "fb50df088ed9e6376020a0fd161ee6bdca6f4e5cc383dd909c1ef92818cf56ce", func := "rondeau/rondeaulaw07.HuffShort", spec := "huffShort", unfollowed := true, recurses := true, plainKeys := false, apart := false, narrowed := true }
def HuffShortUptoSaid : Prop := huffShortUptoRow.holds Try.pinned (OpenSpec.upto huffShortSpec)

end Rows
end Go.Proofs.Ytclhmlgbhlmekaa
