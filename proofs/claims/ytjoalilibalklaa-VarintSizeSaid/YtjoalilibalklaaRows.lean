/-
  No cell of these rows narrows 'for every input' (looked for: loops, veiled, ifaces, maps, wideKeys, modest, calm, conditions, laid).
  DERIVED. THE GIVEN ROWS OF THIS SEAT. 5 by the template 'for every input the law returns true; each argument reads behind the call as it read before'; 0 by the template 'total and deterministic' (their statements: YtjoalilibalklaaTotals.lean).
  GIVEN WITH THE SEED: the statements are not yours to turn. If you find one false, say at which input.
  Laid BY PROGRAM, IN A SANDBOX (cutbox-rows.mjs): the forced cells as the released guide's own fill.sh prints them over the translation 05292890333650c5… (all of the seat's roots in one cut). By AI agents, Wed Nov 11 2026. No macro, syntax, notation, axiom, sorry.
-/
import Derived.Test.YtjoalilibalklaaChecked
import GoSem.Claim
import GoSem.ClaimJoined
import GoSem.ClaimMapViews
import Derived.JoinedTies
import Derived.KernelRfl
namespace Go.Proofs.Ytjoalilibalklaa
/- THE CELL 'sum', in the pinned program and in every row, IS THE sha256 OF THE DUMP (.gsa) THAT YtjoalilibalklaaProg.lean LOADS. Nothing in Lean hashes anything: it is a label: what it is worth is what the hold of that sum in a sandbox is worth. -/
noncomputable def Try.pinned : Pinned := { name := "ytjoalilibalklaa", sum := "05292890333650c51800f45c078fc687ce2545591982907314f695bcad14ea8f", checked := Try.checked }
namespace Rows
def none {H : Type} : Left H := { results := [], args := [] }

/-- 'rondeaulaw02.VarintPrints': WHATEVER THE INPUT: true; the input reads as it did. -/
def varintPrintsSpec : ChangeSpec := { name := "varintPrints", fn := fun _ => fun
  | [d] => { results := [.lit (.bool true)], args := [d] }
  | _ => none }
def varintPrintsRow : OpenClaim := { program := "ytjoalilibalklaa", sum := "05292890333650c51800f45c078fc687ce2545591982907314f695bcad14ea8f", func := "rondeau/rondeaulaw02.VarintPrints", spec := "varintPrints", apart := false }
def VarintPrintsSaid : Prop := varintPrintsRow.holds Try.pinned (OpenSpec.ofChange varintPrintsSpec)

/-- ITS FALSE NEIGHBOUR: 'it returns false'. Refute it at one input. -/
def varintPrintsWrong : ChangeSpec := { name := "varintPrints", fn := fun _ => fun
  | [d] => { results := [.lit (.bool false)], args := [d] }
  | _ => none }
def VarintPrintsWrongFalsely : Prop := varintPrintsRow.holds Try.pinned (OpenSpec.ofChange varintPrintsWrong)

/-- 'rondeaulaw02.VarintReads': WHATEVER THE INPUT: true; the input reads as it did. -/
def varintReadsSpec : ChangeSpec := { name := "varintReads", fn := fun _ => fun
  | [d1, d2] => { results := [.lit (.bool true)], args := [d1, d2] }
  | _ => none }
def varintReadsRow : OpenClaim := { program := "ytjoalilibalklaa", sum := "05292890333650c51800f45c078fc687ce2545591982907314f695bcad14ea8f", func := "rondeau/rondeaulaw02.VarintReads", spec := "varintReads", apart := false }
def VarintReadsSaid : Prop := varintReadsRow.holds Try.pinned (OpenSpec.ofChange varintReadsSpec)

/-- ITS FALSE NEIGHBOUR: 'it returns false'. Refute it at one input. -/
def varintReadsWrong : ChangeSpec := { name := "varintReads", fn := fun _ => fun
  | [d1, d2] => { results := [.lit (.bool false)], args := [d1, d2] }
  | _ => none }
def VarintReadsWrongFalsely : Prop := varintReadsRow.holds Try.pinned (OpenSpec.ofChange varintReadsWrong)

/-- 'rondeaulaw02.VarintBack': WHATEVER THE INPUT: true; the input reads as it did. -/
def varintBackSpec : ChangeSpec := { name := "varintBack", fn := fun _ => fun
  | [d1, d2] => { results := [.lit (.bool true)], args := [d1, d2] }
  | _ => none }
def varintBackRow : OpenClaim := { program := "ytjoalilibalklaa", sum := "05292890333650c51800f45c078fc687ce2545591982907314f695bcad14ea8f", func := "rondeau/rondeaulaw02.VarintBack", spec := "varintBack", apart := false }
def VarintBackSaid : Prop := varintBackRow.holds Try.pinned (OpenSpec.ofChange varintBackSpec)

/-- ITS FALSE NEIGHBOUR: 'it returns false'. Refute it at one input. -/
def varintBackWrong : ChangeSpec := { name := "varintBack", fn := fun _ => fun
  | [d1, d2] => { results := [.lit (.bool false)], args := [d1, d2] }
  | _ => none }
def VarintBackWrongFalsely : Prop := varintBackRow.holds Try.pinned (OpenSpec.ofChange varintBackWrong)

/-- 'rondeaulaw02.VarintOne': WHATEVER THE INPUT: true; the input reads as it did. -/
def varintOneSpec : ChangeSpec := { name := "varintOne", fn := fun _ => fun
  | [d1, d2] => { results := [.lit (.bool true)], args := [d1, d2] }
  | _ => none }
def varintOneRow : OpenClaim := { program := "ytjoalilibalklaa", sum := "05292890333650c51800f45c078fc687ce2545591982907314f695bcad14ea8f", func := "rondeau/rondeaulaw02.VarintOne", spec := "varintOne", apart := false }
def VarintOneSaid : Prop := varintOneRow.holds Try.pinned (OpenSpec.ofChange varintOneSpec)

/-- ITS FALSE NEIGHBOUR: 'it returns false'. Refute it at one input. -/
def varintOneWrong : ChangeSpec := { name := "varintOne", fn := fun _ => fun
  | [d1, d2] => { results := [.lit (.bool false)], args := [d1, d2] }
  | _ => none }
def VarintOneWrongFalsely : Prop := varintOneRow.holds Try.pinned (OpenSpec.ofChange varintOneWrong)

/-- 'rondeaulaw02.VarintSize': WHATEVER THE INPUT: true; the input reads as it did. -/
def varintSizeSpec : ChangeSpec := { name := "varintSize", fn := fun _ => fun
  | [d1, d2] => { results := [.lit (.bool true)], args := [d1, d2] }
  | _ => none }
def varintSizeRow : OpenClaim := { program := "ytjoalilibalklaa", sum := "05292890333650c51800f45c078fc687ce2545591982907314f695bcad14ea8f", func := "rondeau/rondeaulaw02.VarintSize", spec := "varintSize", apart := false }
def VarintSizeSaid : Prop := varintSizeRow.holds Try.pinned (OpenSpec.ofChange varintSizeSpec)

/-- ITS FALSE NEIGHBOUR: 'it returns false'. Refute it at one input. -/
def varintSizeWrong : ChangeSpec := { name := "varintSize", fn := fun _ => fun
  | [d1, d2] => { results := [.lit (.bool false)], args := [d1, d2] }
  | _ => none }
def VarintSizeWrongFalsely : Prop := varintSizeRow.holds Try.pinned (OpenSpec.ofChange varintSizeWrong)

/- THE SECOND FORM. 'bulk': how many values and letters a reading holds, each counted each time it is reached (what is shared counts as often as it is met; a slice's spare places count too). A statement '..UptoSaid' is the law's where the arguments, and the package variables that the reading takes, are together of bulk at most 1048576: NARROWER than '..Said'. Prove '..Said' where nothing that the law and all that it calls make is longer than what came in: it says more and counts as full. Else prove '..UptoSaid'. A law counts once. -/
mutual
def uptoBulk {H : Type} : DataW H → Nat
  | .lit (.string bytes) => bytes.length + 1
  | .lit _ => 1
  | .nil => 1
  | .ptr d => uptoBulk d + 1
  | .slice elems spare => uptoBulkAll elems + uptoBulkAll spare + 1
  | .agg parts => uptoBulkAll parts + 1
  | .iface _ d => uptoBulk d + 1
  | .map entries => uptoBulkEntries entries + 1
  | .held _ => 1
def uptoBulkAll {H : Type} : List (DataW H) → Nat
  | [] => 0
  | d :: r => uptoBulk d + uptoBulkAll r
def uptoBulkEntries {H : Type} : List (Lit × DataW H) → Nat
  | [] => 0
  | x :: r => uptoBulkEntry x + uptoBulkEntries r
def uptoBulkEntry {H : Type} : Lit × DataW H → Nat
  | (.string bytes, d) => bytes.length + uptoBulk d + 1
  | (_, d) => uptoBulk d + 1
 end
def uptoSmall : (H : Type) → List (DataW H) → Bool := fun _ ds => decide (uptoBulkAll ds ≤ 1048576)
def OpenSpec.upto (s : _root_.Go.ChangeSpec) : _root_.Go.OpenSpec := { _root_.Go.OpenSpec.ofChange s with cond := some uptoSmall }

/-- 'rondeaulaw02.VarintPrints', WHERE WHAT IT READS IS OF BULK AT MOST 1048576: true; the input reads as it did. -/
def varintPrintsUptoRow : OpenClaim := { program := "ytjoalilibalklaa", sum := "05292890333650c51800f45c078fc687ce2545591982907314f695bcad14ea8f", func := "rondeau/rondeaulaw02.VarintPrints", spec := "varintPrints", apart := false, narrowed := true }
def VarintPrintsUptoSaid : Prop := varintPrintsUptoRow.holds Try.pinned (OpenSpec.upto varintPrintsSpec)

/-- 'rondeaulaw02.VarintReads', WHERE WHAT IT READS IS OF BULK AT MOST 1048576: true; the input reads as it did. -/
def varintReadsUptoRow : OpenClaim := { program := "ytjoalilibalklaa", sum := "05292890333650c51800f45c078fc687ce2545591982907314f695bcad14ea8f", func := "rondeau/rondeaulaw02.VarintReads", spec := "varintReads", apart := false, narrowed := true }
def VarintReadsUptoSaid : Prop := varintReadsUptoRow.holds Try.pinned (OpenSpec.upto varintReadsSpec)

/-- 'rondeaulaw02.VarintBack', WHERE WHAT IT READS IS OF BULK AT MOST 1048576: true; the input reads as it did. -/
def varintBackUptoRow : OpenClaim := { program := "ytjoalilibalklaa", sum := "05292890333650c51800f45c078fc687ce2545591982907314f695bcad14ea8f", func := "rondeau/rondeaulaw02.VarintBack", spec := "varintBack", apart := false, narrowed := true }
def VarintBackUptoSaid : Prop := varintBackUptoRow.holds Try.pinned (OpenSpec.upto varintBackSpec)

/-- 'rondeaulaw02.VarintOne', WHERE WHAT IT READS IS OF BULK AT MOST 1048576: true; the input reads as it did. -/
def varintOneUptoRow : OpenClaim := { program := "ytjoalilibalklaa", sum := "05292890333650c51800f45c078fc687ce2545591982907314f695bcad14ea8f", func := "rondeau/rondeaulaw02.VarintOne", spec := "varintOne", apart := false, narrowed := true }
def VarintOneUptoSaid : Prop := varintOneUptoRow.holds Try.pinned (OpenSpec.upto varintOneSpec)

/-- 'rondeaulaw02.VarintSize', WHERE WHAT IT READS IS OF BULK AT MOST 1048576: true; the input reads as it did. -/
def varintSizeUptoRow : OpenClaim := { program := "ytjoalilibalklaa", sum := "05292890333650c51800f45c078fc687ce2545591982907314f695bcad14ea8f", func := "rondeau/rondeaulaw02.VarintSize", spec := "varintSize", apart := false, narrowed := true }
def VarintSizeUptoSaid : Prop := varintSizeUptoRow.holds Try.pinned (OpenSpec.upto varintSizeSpec)

end Rows
end Go.Proofs.Ytjoalilibalklaa
