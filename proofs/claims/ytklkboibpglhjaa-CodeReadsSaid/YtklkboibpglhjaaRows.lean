/-
  No cell of these rows narrows 'for every input' (looked for: loops, veiled, ifaces, maps, wideKeys, modest, calm, conditions, laid).
  DERIVED. THE GIVEN ROWS OF THIS SEAT. 6 by the template 'for every input the law returns true; each argument reads behind the call as it read before'; 0 by the template 'total and deterministic' (their statements: YtklkboibpglhjaaTotals.lean).
  GIVEN WITH THE SEED: the statements are not yours to turn. If you find one false, say at which input.
  Laid BY PROGRAM, IN A SANDBOX (cutbox-rows.mjs): the forced cells as the released guide's own fill.sh prints them over the translation 9b50bb642cab4dac… (all of the seat's roots in one cut). By AI agents, Wed Nov 11 2026. No macro, syntax, notation, axiom, sorry.
-/
import Derived.Test.YtklkboibpglhjaaChecked
import GoSem.Claim
import GoSem.ClaimJoined
import GoSem.ClaimMapViews
import Derived.JoinedTies
import Derived.KernelRfl
namespace Go.Proofs.Ytklkboibpglhjaa
/- THE CELL 'sum', in the pinned program and in every row, IS THE sha256 OF THE DUMP (.gsa) THAT YtklkboibpglhjaaProg.lean LOADS. Nothing in Lean hashes anything: it is a label: what it is worth is what the hold of that sum in a sandbox is worth. -/
noncomputable def Try.pinned : Pinned := { name := "ytklkboibpglhjaa", sum := "9b50bb642cab4dacf9a083f715772465870645dbd6b6f1e4a5ec269bdbee4d21", checked := Try.checked }
namespace Rows
def none {H : Type} : Left H := { results := [], args := [] }

/-- 'rondeaulaw09.CodeTells': WHATEVER THE INPUT: true; the input reads as it did. -/
def codeTellsSpec : ChangeSpec := { name := "codeTells", fn := fun _ => fun
  | [d1, d2] => { results := [.lit (.bool true)], args := [d1, d2] }
  | _ => none }
def codeTellsRow : OpenClaim := { program := "ytklkboibpglhjaa", sum := "9b50bb642cab4dacf9a083f715772465870645dbd6b6f1e4a5ec269bdbee4d21", func := "rondeau/rondeaulaw09.CodeTells", spec := "codeTells", unfollowed := true, recurses := true, apart := false }
def CodeTellsSaid : Prop := codeTellsRow.holds Try.pinned (OpenSpec.ofChange codeTellsSpec)

/-- ITS FALSE NEIGHBOUR: 'it returns false'. Refute it at one input. -/
def codeTellsWrong : ChangeSpec := { name := "codeTells", fn := fun _ => fun
  | [d1, d2] => { results := [.lit (.bool false)], args := [d1, d2] }
  | _ => none }
def CodeTellsWrongFalsely : Prop := codeTellsRow.holds Try.pinned (OpenSpec.ofChange codeTellsWrong)

/-- 'rondeaulaw09.CodePrints': WHATEVER THE INPUT: true; the input reads as it did. -/
def codePrintsSpec : ChangeSpec := { name := "codePrints", fn := fun _ => fun
  | [d] => { results := [.lit (.bool true)], args := [d] }
  | _ => none }
def codePrintsRow : OpenClaim := { program := "ytklkboibpglhjaa", sum := "9b50bb642cab4dacf9a083f715772465870645dbd6b6f1e4a5ec269bdbee4d21", func := "rondeau/rondeaulaw09.CodePrints", spec := "codePrints", unfollowed := true, recurses := true, apart := false }
def CodePrintsSaid : Prop := codePrintsRow.holds Try.pinned (OpenSpec.ofChange codePrintsSpec)

/-- ITS FALSE NEIGHBOUR: 'it returns false'. Refute it at one input. -/
def codePrintsWrong : ChangeSpec := { name := "codePrints", fn := fun _ => fun
  | [d] => { results := [.lit (.bool false)], args := [d] }
  | _ => none }
def CodePrintsWrongFalsely : Prop := codePrintsRow.holds Try.pinned (OpenSpec.ofChange codePrintsWrong)

/-- 'rondeaulaw09.CodeReads': WHATEVER THE INPUT: true; the input reads as it did. -/
def codeReadsSpec : ChangeSpec := { name := "codeReads", fn := fun _ => fun
  | [d] => { results := [.lit (.bool true)], args := [d] }
  | _ => none }
def codeReadsRow : OpenClaim := { program := "ytklkboibpglhjaa", sum := "9b50bb642cab4dacf9a083f715772465870645dbd6b6f1e4a5ec269bdbee4d21", func := "rondeau/rondeaulaw09.CodeReads", spec := "codeReads", unfollowed := true, recurses := true, apart := false }
def CodeReadsSaid : Prop := codeReadsRow.holds Try.pinned (OpenSpec.ofChange codeReadsSpec)

/-- ITS FALSE NEIGHBOUR: 'it returns false'. Refute it at one input. -/
def codeReadsWrong : ChangeSpec := { name := "codeReads", fn := fun _ => fun
  | [d] => { results := [.lit (.bool false)], args := [d] }
  | _ => none }
def CodeReadsWrongFalsely : Prop := codeReadsRow.holds Try.pinned (OpenSpec.ofChange codeReadsWrong)

/-- 'rondeaulaw09.CodeBack': WHATEVER THE INPUT: true; the input reads as it did. -/
def codeBackSpec : ChangeSpec := { name := "codeBack", fn := fun _ => fun
  | [d1, d2] => { results := [.lit (.bool true)], args := [d1, d2] }
  | _ => none }
def codeBackRow : OpenClaim := { program := "ytklkboibpglhjaa", sum := "9b50bb642cab4dacf9a083f715772465870645dbd6b6f1e4a5ec269bdbee4d21", func := "rondeau/rondeaulaw09.CodeBack", spec := "codeBack", unfollowed := true, recurses := true, apart := false }
def CodeBackSaid : Prop := codeBackRow.holds Try.pinned (OpenSpec.ofChange codeBackSpec)

/-- ITS FALSE NEIGHBOUR: 'it returns false'. Refute it at one input. -/
def codeBackWrong : ChangeSpec := { name := "codeBack", fn := fun _ => fun
  | [d1, d2] => { results := [.lit (.bool false)], args := [d1, d2] }
  | _ => none }
def CodeBackWrongFalsely : Prop := codeBackRow.holds Try.pinned (OpenSpec.ofChange codeBackWrong)

/-- 'rondeaulaw09.CodeDigests': WHATEVER THE INPUT: true; the input reads as it did. -/
def codeDigestsSpec : ChangeSpec := { name := "codeDigests", fn := fun _ => fun
  | [d1, d2, d3] => { results := [.lit (.bool true)], args := [d1, d2, d3] }
  | _ => none }
def codeDigestsRow : OpenClaim := { program := "ytklkboibpglhjaa", sum := "9b50bb642cab4dacf9a083f715772465870645dbd6b6f1e4a5ec269bdbee4d21", func := "rondeau/rondeaulaw09.CodeDigests", spec := "codeDigests", unfollowed := true, recurses := true, apart := false }
def CodeDigestsSaid : Prop := codeDigestsRow.holds Try.pinned (OpenSpec.ofChange codeDigestsSpec)

/-- ITS FALSE NEIGHBOUR: 'it returns false'. Refute it at one input. -/
def codeDigestsWrong : ChangeSpec := { name := "codeDigests", fn := fun _ => fun
  | [d1, d2, d3] => { results := [.lit (.bool false)], args := [d1, d2, d3] }
  | _ => none }
def CodeDigestsWrongFalsely : Prop := codeDigestsRow.holds Try.pinned (OpenSpec.ofChange codeDigestsWrong)

/-- 'rondeaulaw09.CodeTargets': WHATEVER THE INPUT: true; the input reads as it did. -/
def codeTargetsSpec : ChangeSpec := { name := "codeTargets", fn := fun _ => fun
  | [d] => { results := [.lit (.bool true)], args := [d] }
  | _ => none }
def codeTargetsRow : OpenClaim := { program := "ytklkboibpglhjaa", sum := "9b50bb642cab4dacf9a083f715772465870645dbd6b6f1e4a5ec269bdbee4d21", func := "rondeau/rondeaulaw09.CodeTargets", spec := "codeTargets", unfollowed := true, recurses := true, apart := false }
def CodeTargetsSaid : Prop := codeTargetsRow.holds Try.pinned (OpenSpec.ofChange codeTargetsSpec)

/-- ITS FALSE NEIGHBOUR: 'it returns false'. Refute it at one input. -/
def codeTargetsWrong : ChangeSpec := { name := "codeTargets", fn := fun _ => fun
  | [d] => { results := [.lit (.bool false)], args := [d] }
  | _ => none }
def CodeTargetsWrongFalsely : Prop := codeTargetsRow.holds Try.pinned (OpenSpec.ofChange codeTargetsWrong)

/- THE SECOND FORM. 'bulk': how many values and letters a reading holds, each counted each time it is reached (what is shared counts as often as it is met; a slice's spare places count too). A statement '..UptoSaid' is the law's where the arguments, and the package variables that the reading takes, are together of bulk at most 1048576: NARROWER than '..Said'. Prove '..Said' where nothing that the law and all that it calls make is longer than what came in: it says more and counts as full. Else prove '..UptoSaid'. A law counts once. -/
mutual
def uptoBulk {H : Type} : DataW H → Nat
  | .lit (.string bytes) => bytes.length + 1
  | .lit _ => 1
  | .nil => 1
  | .ptr d => uptoBulk d + 1
  | .slice elems spare => uptoBulkAll elems + uptoBulkAll spare + 1
  | .agg parts => uptoBulkAll parts + 1
  | .iface _ d => uptoBulk d + 1
  | .map entries => uptoBulkEntries entries + 1
  | .held _ => 1
def uptoBulkAll {H : Type} : List (DataW H) → Nat
  | [] => 0
  | d :: r => uptoBulk d + uptoBulkAll r
def uptoBulkEntries {H : Type} : List (Lit × DataW H) → Nat
  | [] => 0
  | x :: r => uptoBulkEntry x + uptoBulkEntries r
def uptoBulkEntry {H : Type} : Lit × DataW H → Nat
  | (.string bytes, d) => bytes.length + uptoBulk d + 1
  | (_, d) => uptoBulk d + 1
 end
def uptoSmall : (H : Type) → List (DataW H) → Bool := fun _ ds => decide (uptoBulkAll ds ≤ 1048576)
def OpenSpec.upto (s : _root_.Go.ChangeSpec) : _root_.Go.OpenSpec := { _root_.Go.OpenSpec.ofChange s with cond := some uptoSmall }

/-- 'rondeaulaw09.CodeTells', WHERE WHAT IT READS IS OF BULK AT MOST 1048576: true; the input reads as it did. -/
def codeTellsUptoRow : OpenClaim := { program := "ytklkboibpglhjaa", sum := "9b50bb642cab4dacf9a083f715772465870645dbd6b6f1e4a5ec269bdbee4d21", func := "rondeau/rondeaulaw09.CodeTells", spec := "codeTells", unfollowed := true, recurses := true, apart := false, narrowed := true }
def CodeTellsUptoSaid : Prop := codeTellsUptoRow.holds Try.pinned (OpenSpec.upto codeTellsSpec)

/-- 'rondeaulaw09.CodePrints', WHERE WHAT IT READS IS OF BULK AT MOST 1048576: true; the input reads as it did. -/
def codePrintsUptoRow : OpenClaim := { program := "ytklkboibpglhjaa", sum := "9b50bb642cab4dacf9a083f715772465870645dbd6b6f1e4a5ec269bdbee4d21", func := "rondeau/rondeaulaw09.CodePrints", spec := "codePrints", unfollowed := true, recurses := true, apart := false, narrowed := true }
def CodePrintsUptoSaid : Prop := codePrintsUptoRow.holds Try.pinned (OpenSpec.upto codePrintsSpec)

/-- 'rondeaulaw09.CodeReads', WHERE WHAT IT READS IS OF BULK AT MOST 1048576: true; the input reads as it did. -/
def codeReadsUptoRow : OpenClaim := { program := "ytklkboibpglhjaa", sum := "9b50bb642cab4dacf9a083f715772465870645dbd6b6f1e4a5ec269bdbee4d21", func := "rondeau/rondeaulaw09.CodeReads", spec := "codeReads", unfollowed := true, recurses := true, apart := false, narrowed := true }
def CodeReadsUptoSaid : Prop := codeReadsUptoRow.holds Try.pinned (OpenSpec.upto codeReadsSpec)

/-- 'rondeaulaw09.CodeBack', WHERE WHAT IT READS IS OF BULK AT MOST 1048576: true; the input reads as it did. -/
def codeBackUptoRow : OpenClaim := { program := "ytklkboibpglhjaa", sum := "9b50bb642cab4dacf9a083f715772465870645dbd6b6f1e4a5ec269bdbee4d21", func := "rondeau/rondeaulaw09.CodeBack", spec := "codeBack", unfollowed := true, recurses := true, apart := false, narrowed := true }
def CodeBackUptoSaid : Prop := codeBackUptoRow.holds Try.pinned (OpenSpec.upto codeBackSpec)

/-- 'rondeaulaw09.CodeDigests', WHERE WHAT IT READS IS OF BULK AT MOST 1048576: true; the input reads as it did. -/
def codeDigestsUptoRow : OpenClaim := { program := "ytklkboibpglhjaa", sum := "9b50bb642cab4dacf9a083f715772465870645dbd6b6f1e4a5ec269bdbee4d21", func := "rondeau/rondeaulaw09.CodeDigests", spec := "codeDigests", unfollowed := true, recurses := true, apart := false, narrowed := true }
def CodeDigestsUptoSaid : Prop := codeDigestsUptoRow.holds Try.pinned (OpenSpec.upto codeDigestsSpec)

/-- 'rondeaulaw09.CodeTargets', WHERE WHAT IT READS IS OF BULK AT MOST 1048576: true; the input reads as it did. -/
def codeTargetsUptoRow : OpenClaim := { program := "ytklkboibpglhjaa", sum := "9b50bb642cab4dacf9a083f715772465870645dbd6b6f1e4a5ec269bdbee4d21", func := "rondeau/rondeaulaw09.CodeTargets", spec := "codeTargets", unfollowed := true, recurses := true, apart := false, narrowed := true }
def CodeTargetsUptoSaid : Prop := codeTargetsUptoRow.holds Try.pinned (OpenSpec.upto codeTargetsSpec)

end Rows
end Go.Proofs.Ytklkboibpglhjaa
