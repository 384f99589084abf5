/-
  No cell of these rows narrows 'for every input' (looked for: loops, veiled, ifaces, maps, wideKeys, modest, calm, conditions, laid).
  DERIVED. THE GIVEN ROWS OF THIS SEAT. 6 by the template 'for every input the law returns true; each argument reads behind the call as it read before'; 0 by the template 'total and deterministic' (their statements: YtpdhfmkaeemadaaTotals.lean).
  GIVEN WITH THE SEED: the statements are not yours to turn. If you find one false, say at which input.
  Laid BY PROGRAM, IN A SANDBOX (cutbox-rows.mjs): the forced cells as the released guide's own fill.sh prints them over the translation 8c8ac120a5da6f8e… (all of the seat's roots in one cut). By AI agents, Wed Nov 11 2026. No macro, syntax, notation, axiom, sorry.
-/
import Derived.Test.YtpdhfmkaeemadaaChecked
import GoSem.Claim
import GoSem.ClaimJoined
import GoSem.ClaimMapViews
import Derived.JoinedTies
import Derived.KernelRfl
namespace Go.Proofs.Ytpdhfmkaeemadaa
/- THE CELL 'sum', in the pinned program and in every row, IS THE sha256 OF THE DUMP (.gsa) THAT YtpdhfmkaeemadaaProg.lean LOADS. Nothing in Lean hashes anything: it is a label: what it is worth is what the hold of that sum in a sandbox is worth. -/
noncomputable def Try.pinned : Pinned := { name := "ytpdhfmkaeemadaa", sum := "8c8ac120a5da6f8e1f49816c5f9a1100b3afd2a0fe8599047e34d9227902ff36", checked := Try.checked }
namespace Rows
def none {H : Type} : Left H := { results := [], args := [] }

/-- 'rondeaulaw04.RunsPacks': WHATEVER THE INPUT: true; the input reads as it did. -/
def runsPacksSpec : ChangeSpec := { name := "runsPacks", fn := fun _ => fun
  | [d] => { results := [.lit (.bool true)], args := [d] }
  | _ => none }
def runsPacksRow : OpenClaim := { program := "ytpdhfmkaeemadaa", sum := "8c8ac120a5da6f8e1f49816c5f9a1100b3afd2a0fe8599047e34d9227902ff36", func := "rondeau/rondeaulaw04.RunsPacks", spec := "runsPacks", apart := false }
def RunsPacksSaid : Prop := runsPacksRow.holds Try.pinned (OpenSpec.ofChange runsPacksSpec)

/-- ITS FALSE NEIGHBOUR: 'it returns false'. Refute it at one input. -/
def runsPacksWrong : ChangeSpec := { name := "runsPacks", fn := fun _ => fun
  | [d] => { results := [.lit (.bool false)], args := [d] }
  | _ => none }
def RunsPacksWrongFalsely : Prop := runsPacksRow.holds Try.pinned (OpenSpec.ofChange runsPacksWrong)

/-- 'rondeaulaw04.RunsUnpacks': WHATEVER THE INPUT: true; the input reads as it did. -/
def runsUnpacksSpec : ChangeSpec := { name := "runsUnpacks", fn := fun _ => fun
  | [d1, d2] => { results := [.lit (.bool true)], args := [d1, d2] }
  | _ => none }
def runsUnpacksRow : OpenClaim := { program := "ytpdhfmkaeemadaa", sum := "8c8ac120a5da6f8e1f49816c5f9a1100b3afd2a0fe8599047e34d9227902ff36", func := "rondeau/rondeaulaw04.RunsUnpacks", spec := "runsUnpacks", apart := false }
def RunsUnpacksSaid : Prop := runsUnpacksRow.holds Try.pinned (OpenSpec.ofChange runsUnpacksSpec)

/-- ITS FALSE NEIGHBOUR: 'it returns false'. Refute it at one input. -/
def runsUnpacksWrong : ChangeSpec := { name := "runsUnpacks", fn := fun _ => fun
  | [d1, d2] => { results := [.lit (.bool false)], args := [d1, d2] }
  | _ => none }
def RunsUnpacksWrongFalsely : Prop := runsUnpacksRow.holds Try.pinned (OpenSpec.ofChange runsUnpacksWrong)

/-- 'rondeaulaw04.RunsFew': WHATEVER THE INPUT: true; the input reads as it did. -/
def runsFewSpec : ChangeSpec := { name := "runsFew", fn := fun _ => fun
  | [d] => { results := [.lit (.bool true)], args := [d] }
  | _ => none }
def runsFewRow : OpenClaim := { program := "ytpdhfmkaeemadaa", sum := "8c8ac120a5da6f8e1f49816c5f9a1100b3afd2a0fe8599047e34d9227902ff36", func := "rondeau/rondeaulaw04.RunsFew", spec := "runsFew", apart := false }
def RunsFewSaid : Prop := runsFewRow.holds Try.pinned (OpenSpec.ofChange runsFewSpec)

/-- ITS FALSE NEIGHBOUR: 'it returns false'. Refute it at one input. -/
def runsFewWrong : ChangeSpec := { name := "runsFew", fn := fun _ => fun
  | [d] => { results := [.lit (.bool false)], args := [d] }
  | _ => none }
def RunsFewWrongFalsely : Prop := runsFewRow.holds Try.pinned (OpenSpec.ofChange runsFewWrong)

/-- 'rondeaulaw04.RunsJoins': WHATEVER THE INPUT: true; the input reads as it did. -/
def runsJoinsSpec : ChangeSpec := { name := "runsJoins", fn := fun _ => fun
  | [d1, d2] => { results := [.lit (.bool true)], args := [d1, d2] }
  | _ => none }
def runsJoinsRow : OpenClaim := { program := "ytpdhfmkaeemadaa", sum := "8c8ac120a5da6f8e1f49816c5f9a1100b3afd2a0fe8599047e34d9227902ff36", func := "rondeau/rondeaulaw04.RunsJoins", spec := "runsJoins", apart := false }
def RunsJoinsSaid : Prop := runsJoinsRow.holds Try.pinned (OpenSpec.ofChange runsJoinsSpec)

/-- ITS FALSE NEIGHBOUR: 'it returns false'. Refute it at one input. -/
def runsJoinsWrong : ChangeSpec := { name := "runsJoins", fn := fun _ => fun
  | [d1, d2] => { results := [.lit (.bool false)], args := [d1, d2] }
  | _ => none }
def RunsJoinsWrongFalsely : Prop := runsJoinsRow.holds Try.pinned (OpenSpec.ofChange runsJoinsWrong)

/-- 'rondeaulaw04.RunsPrints': WHATEVER THE INPUT: true; the input reads as it did. -/
def runsPrintsSpec : ChangeSpec := { name := "runsPrints", fn := fun _ => fun
  | [d1, d2] => { results := [.lit (.bool true)], args := [d1, d2] }
  | _ => none }
def runsPrintsRow : OpenClaim := { program := "ytpdhfmkaeemadaa", sum := "8c8ac120a5da6f8e1f49816c5f9a1100b3afd2a0fe8599047e34d9227902ff36", func := "rondeau/rondeaulaw04.RunsPrints", spec := "runsPrints", apart := false }
def RunsPrintsSaid : Prop := runsPrintsRow.holds Try.pinned (OpenSpec.ofChange runsPrintsSpec)

/-- ITS FALSE NEIGHBOUR: 'it returns false'. Refute it at one input. -/
def runsPrintsWrong : ChangeSpec := { name := "runsPrints", fn := fun _ => fun
  | [d1, d2] => { results := [.lit (.bool false)], args := [d1, d2] }
  | _ => none }
def RunsPrintsWrongFalsely : Prop := runsPrintsRow.holds Try.pinned (OpenSpec.ofChange runsPrintsWrong)

/-- 'rondeaulaw04.RunsReads': WHATEVER THE INPUT: true; the input reads as it did. -/
def runsReadsSpec : ChangeSpec := { name := "runsReads", fn := fun _ => fun
  | [d1, d2] => { results := [.lit (.bool true)], args := [d1, d2] }
  | _ => none }
def runsReadsRow : OpenClaim := { program := "ytpdhfmkaeemadaa", sum := "8c8ac120a5da6f8e1f49816c5f9a1100b3afd2a0fe8599047e34d9227902ff36", func := "rondeau/rondeaulaw04.RunsReads", spec := "runsReads", apart := false }
def RunsReadsSaid : Prop := runsReadsRow.holds Try.pinned (OpenSpec.ofChange runsReadsSpec)

/-- ITS FALSE NEIGHBOUR: 'it returns false'. Refute it at one input. -/
def runsReadsWrong : ChangeSpec := { name := "runsReads", fn := fun _ => fun
  | [d1, d2] => { results := [.lit (.bool false)], args := [d1, d2] }
  | _ => none }
def RunsReadsWrongFalsely : Prop := runsReadsRow.holds Try.pinned (OpenSpec.ofChange runsReadsWrong)

/- THE SECOND FORM. 'bulk': how many values and letters a reading holds, each counted each time it is reached (what is shared counts as often as it is met; a slice's spare places count too). A statement '..UptoSaid' is the law's where the arguments, and the package variables that the reading takes, are together of bulk at most 1048576: NARROWER than '..Said'. Prove '..Said' where nothing that the law and all that it calls make is longer than what came in: it says more and counts as full. Else prove '..UptoSaid'. A law counts once. -/
mutual
def uptoBulk {H : Type} : DataW H → Nat
  | .lit (.string bytes) => bytes.length + 1
  | .lit _ => 1
  | .nil => 1
  | .ptr d => uptoBulk d + 1
  | .slice elems spare => uptoBulkAll elems + uptoBulkAll spare + 1
  | .agg parts => uptoBulkAll parts + 1
  | .iface _ d => uptoBulk d + 1
  | .map entries => uptoBulkEntries entries + 1
  | .held _ => 1
def uptoBulkAll {H : Type} : List (DataW H) → Nat
  | [] => 0
  | d :: r => uptoBulk d + uptoBulkAll r
def uptoBulkEntries {H : Type} : List (Lit × DataW H) → Nat
  | [] => 0
  | x :: r => uptoBulkEntry x + uptoBulkEntries r
def uptoBulkEntry {H : Type} : Lit × DataW H → Nat
  | (.string bytes, d) => bytes.length + uptoBulk d + 1
  | (_, d) => uptoBulk d + 1
 end
def uptoSmall : (H : Type) → List (DataW H) → Bool := fun _ ds => decide (uptoBulkAll ds ≤ 1048576)
def OpenSpec.upto (s : _root_.Go.ChangeSpec) : _root_.Go.OpenSpec := { _root_.Go.OpenSpec.ofChange s with cond := some uptoSmall }

/-- 'rondeaulaw04.RunsPacks', WHERE WHAT IT READS IS OF BULK AT MOST 1048576: true; the input reads as it did. -/
def runsPacksUptoRow : OpenClaim := { program := "ytpdhfmkaeemadaa", sum := "8c8ac120a5da6f8e1f49816c5f9a1100b3afd2a0fe8599047e34d9227902ff36", func := "rondeau/rondeaulaw04.RunsPacks", spec := "runsPacks", apart := false, narrowed := true }
def RunsPacksUptoSaid : Prop := runsPacksUptoRow.holds Try.pinned (OpenSpec.upto runsPacksSpec)

/-- 'rondeaulaw04.RunsUnpacks', WHERE WHAT IT READS IS OF BULK AT MOST 1048576: true; the input reads as it did. -/
def runsUnpacksUptoRow : OpenClaim := { program := "ytpdhfmkaeemadaa", sum := "8c8ac120a5da6f8e1f49816c5f9a1100b3afd2a0fe8599047e34d9227902ff36", func := "rondeau/rondeaulaw04.RunsUnpacks", spec := "runsUnpacks", apart := false, narrowed := true }
def RunsUnpacksUptoSaid : Prop := runsUnpacksUptoRow.holds Try.pinned (OpenSpec.upto runsUnpacksSpec)

/-- 'rondeaulaw04.RunsFew', WHERE WHAT IT READS IS OF BULK AT MOST 1048576: true; the input reads as it did. -/
def runsFewUptoRow : OpenClaim := { program := "ytpdhfmkaeemadaa", sum := "8c8ac120a5da6f8e1f49816c5f9a1100b3afd2a0fe8599047e34d9227902ff36", func := "rondeau/rondeaulaw04.RunsFew", spec := "runsFew", apart := false, narrowed := true }
def RunsFewUptoSaid : Prop := runsFewUptoRow.holds Try.pinned (OpenSpec.upto runsFewSpec)

/-- 'rondeaulaw04.RunsJoins', WHERE WHAT IT READS IS OF BULK AT MOST 1048576: true; the input reads as it did. -/
def runsJoinsUptoRow : OpenClaim := { program := "ytpdhfmkaeemadaa", sum := "8c8ac120a5da6f8e1f49816c5f9a1100b3afd2a0fe8599047e34d9227902ff36", func := "rondeau/rondeaulaw04.RunsJoins", spec := "runsJoins", apart := false, narrowed := true }
def RunsJoinsUptoSaid : Prop := runsJoinsUptoRow.holds Try.pinned (OpenSpec.upto runsJoinsSpec)

/-- 'rondeaulaw04.RunsPrints', WHERE WHAT IT READS IS OF BULK AT MOST 1048576: true; the input reads as it did. -/
def runsPrintsUptoRow : OpenClaim := { program := "ytpdhfmkaeemadaa", sum := "8c8ac120a5da6f8e1f49816c5f9a1100b3afd2a0fe8599047e34d9227902ff36", func := "rondeau/rondeaulaw04.RunsPrints", spec := "runsPrints", apart := false, narrowed := true }
def RunsPrintsUptoSaid : Prop := runsPrintsUptoRow.holds Try.pinned (OpenSpec.upto runsPrintsSpec)

/-- 'rondeaulaw04.RunsReads', WHERE WHAT IT READS IS OF BULK AT MOST 1048576: true; the input reads as it did. -/
def runsReadsUptoRow : OpenClaim := { program := "ytpdhfmkaeemadaa", sum := "8c8ac120a5da6f8e1f49816c5f9a1100b3afd2a0fe8599047e34d9227902ff36", func := "rondeau/rondeaulaw04.RunsReads", spec := "runsReads", apart := false, narrowed := true }
def RunsReadsUptoSaid : Prop := runsReadsUptoRow.holds Try.pinned (OpenSpec.upto runsReadsSpec)

end Rows
end Go.Proofs.Ytpdhfmkaeemadaa
